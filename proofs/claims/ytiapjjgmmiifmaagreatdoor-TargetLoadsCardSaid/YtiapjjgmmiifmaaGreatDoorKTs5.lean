/- The law TargetLoads, as its statement says it: for every input; the listed variables hold what the program's text lays. -/
import Derived.Test.YtiapjjgmmiifmaaGreatDoorKTs4
import Derived.Lib.ItoaMem
import Derived.KernelRfl
import Derived.Test.YtiapjjgmmiifmaaGreatDoorCards
import Derived.Test.YtiapjjgmmiifmaaGreatDoorTie
import Derived.WalkKit
import Derived.ProofKit
import Derived.OpenShut
import Derived.JoinedCond
import Derived.ChangeOld
import Derived.Deep.DeepHandedRow
import Derived.Deep.DeepWitnessRowRef
set_option linter.unusedVariables false
set_option linter.unusedSimpArgs false
namespace Go.Proofs.YtiapjjgmmiifmaaGreatDoor.Ab
open Go Go.RowKit
open Go.Sort (Holds putRow putCells onCells)
set_option maxHeartbeats 4000000
set_option maxRecDepth 100000
/-- The numeral is written into a row of zeros. -/
theorem c_fmtB10 {w0 : World} {m : Mem} {i n u : Nat} {cs : List Value} {E : TypeId} {Q : Value → Mem → Prop} (hg : m.get i = .own cs E) (hn : n = Lib.nDigits u) (hl : n ≤ cs.length) (hz : ∀ j, j < n → cs[j]? = some (.int .u8 0)) (hu : 1 ≤ u ∧ u < 18446744073709551616)
    (hq : Q (.tuple ⟨[]⟩) (m.set i (.own ((digs 10 u).map byteV ++ cs.drop n) E))) : AbC Tryz.prog w0 68 [.slice (some ⟨i, 0, none⟩) n 1, .int .u64 (u : Int)] m Q := by
  intro G w args' hs hargs
  have hnd : n ≤ 20 := by have := Lib.numDigits_eq u hu.1 hu.2; split at this <;> omega
  have hn1 : 1 ≤ n := by rw [hn, ← Lib.decDigits_length, dec_digs]; exact digs_pos _ _
  cases hargs with
  | cons _ a1 _ r1 h1 hr =>
  cases hr with
  | cons _ a2 _ r2 h2 hr =>
  cases hr
  cases h2
  cases h1 with
  | sl _ _ B b S _ cp _ hgi hnc hcm hS =>
  rw [run_callFunc_enter (by kernel_rfl)]
  show Calls _ _ _ _ _
  obtain ⟨hB, c, fz, hw, hcS, hop, hcell, hlen⟩ := own_get hs hgi hg
  have hlen := hlen (by omega)
  simp only [Nat.add_zero]
  have hH : Holds (fun (b : UInt8) => Value.int .u8 (b.toNat : Int)) w B b (Array.replicate n 0) := by
    intro j hj
    rw [Array.size_replicate] at hj
    obtain ⟨v', hv1, hv2⟩ := hcell j _ (hz j hj)
    cases hv2
    refine ⟨?_, cells_frozen hw hop _ (by omega)⟩
    simp only [World.cell?, hw, Option.isSome_none, Bool.false_eq_true, if_false, hv1]
    rw [getElem!_pos _ j (by simpa using hj), Array.getElem_replicate]; rfl
  have key := Tryz.internal_strconv_formatBase10 B b cp u (Array.replicate n 0) w hH (by rw [Array.size_replicate, hn]; exact Lib.lt_pow_nDigits u) hu.2 (by rw [Array.size_replicate]; omega)
  rw [Array.size_replicate] at key
  refine key.mono ?_
  rintro e w' ⟨rfl, k, v', dk, rfl, hF⟩
  have hdk : dk.size = n := hF.size
  have hst : St Tryz.prog w0 G (m.set i (.own ((digs 10 u).map byteV ++ cs.drop n) E)) ((putRow (fun (b : UInt8) => Value.int .u8 (b.toNat : Int)) w B b dk).drewN k) := by
    have hw' : ((putRow (fun (b : UInt8) => Value.int .u8 (b.toNat : Int)) w B b dk).drewN k).heap[B]? = some (.cells (putCells (fun (b : UInt8) => Value.int .u8 (b.toNat : Int)) b dk c) E fz) := by
      show (w.heap.modify B _)[B]? = _
      rw [Array.getElem?_modify]
      simp [hw, onCells]
    refine hs.write (e := .own ((digs 10 u).map byteV ++ cs.drop n) E) (by rw [hg]; rfl) hgi rfl rfl rfl (by simp [World.drewN]) (fun q hq => ?_) ⟨hB, _, fz, hw', by simp [putCells, hcS], by simpa [putCells] using hop, fun j v hj => ?_⟩ (fun cs' e' he => by cases he; exact ⟨cs, hg⟩)
    · show (w.heap.modify B _)[q]? = _
      rw [Array.getElem?_modify, if_neg (fun e => hq e.symm)]
    · have hdl : (digs 10 u).length = n := by rw [← dec_digs, Lib.decDigits_length, hn]
      rw [List.getElem?_append] at hj
      by_cases hjn : j < n
      · rw [if_pos (by simpa [hdl] using hjn), List.getElem?_map] at hj
        have hjd : j < (digs 10 u).length := by omega
        rw [List.getElem?_eq_getElem hjd] at hj
        simp at hj; subst hj
        refine ⟨_, ?_, .int _ _⟩
        have hjc : b + j < c.size := by omega
        have hnum := Lib.row_is_numeral (u := u) (v' := v') (dk := dk) (by rw [← hn]; exact hF) j (by rw [Lib.decDigits_length, ← hn]; exact hjn)
        have hd2 : (digs 10 u)[j] = dk[j]! := by rw [← hnum]; congr 1; exact (dec_digs u).symm
        simp only [putCells, Array.getElem?_mapIdx]
        rw [Array.getElem?_eq_getElem hjc]
        simp only [Option.map_some]
        rw [if_pos (by omega), Nat.add_sub_cancel_left, hd2]
      · rw [if_neg (by simpa [hdl] using hjn), List.length_map, hdl, List.getElem?_drop, show n + (j - n) = j from by omega] at hj
        obtain ⟨v2, hv1, hv2⟩ := hcell j v hj
        refine ⟨v2, ?_, hv2⟩
        simp only [putCells, Array.getElem?_mapIdx, hv1, Option.map_some]
        rw [if_neg (by omega)]
  exact ⟨_, rfl, G, _, _, Loc.le_refl G, .tuple _ _ .nil, hst, hq⟩
theorem bstr_pre {m : Mem} {i n : Nat} {E : TypeId} {l : List UInt8} {r : List Value} (h : m.get i = .own (l.map byteV ++ r) E) (hl : l.length = n) : bstr m (.slice (some ⟨i, 0, none⟩) n 1) = some (.string ⟨⟨l⟩⟩) := by
  subst hl
  have h1 : (l.map byteV ++ r).take l.length = l.map byteV := by
    rw [List.take_append_of_le_length (by simp)]; exact List.take_of_length_le (by simp)
  simp only [bstr, Mem.row_own h, Nat.zero_add, List.drop_zero, h1]
  rw [if_pos (by simp)]
  simp only [bytesOf_mapN]
theorem c_FormatUint {w0 : World} {m : Mem} {B u : Nat} {Q : Value → Mem → Prop} (hp : Part L0 m) (ht : Ten w0) (hB : B = 10 ∨ B = 16) (hu : u < 18446744073709551616) (hq : ∀ m', Old m m' → Q (.string ⟨⟨digs B u⟩⟩) m') : AbC Tryz.prog w0 34 [.int .u64 (u : Int), .int .i64 (B : Int)] m Q := by
  refine AbC_fn ok34 (by simp) ?_
  simp -implicitDefEqProofs (disch := first | assumption | (simp only [wnA]; done) | (simp only [wnA]; omega) | omega | fail) [rc34, ro34, wkA, retV, stabOk, dC, ev, fillD, pickCells, putAt, bnd, slD, List.getElem?_cons_zero, List.getElem?_cons_succ, dR_sl, Mem.cell, Mem.row, wmA]
  refine AbC_fn ok47 (by simp) ?_
  rcases hB with rfl | rfl
  · by_cases h100 : u < 100
    · have h1 : (u : Int) < 100 := by omega
      have w1 : IntKind.i64.wrap (u : Int) = (u : Int) := w64 (by omega)
      simp -implicitDefEqProofs (disch := first | assumption | (simp only [wnA]; done) | (simp only [wnA]; omega) | omega | fail) [rc47, ro47, wkA, retV, stabOk, dC, ev, fillD, pickCells, putAt, bnd, slD, List.getElem?_cons_zero, List.getElem?_cons_succ, dR_sl, Mem.cell, Mem.row, wmA, h1, w1]
      refine c_calls (v := .string ⟨⟨digs 10 u⟩⟩) (by kernel_rfl) rfl rfl (fun G w hs => ?_) ?_
      · refine (Tryz.internal_strconv_small u h100 w).mono ?_
        rintro e w' ⟨rfl, rfl⟩
        exact ⟨by rw [dec_digs], Below.refl _ _⟩
      · simp -implicitDefEqProofs (disch := first | assumption | (simp only [wnA]; done) | (simp only [wnA]; omega) | omega | fail) [wkA, retV, stabOk, dC, ev, fillD, pickCells, putAt, bnd, slD, List.getElem?_cons_zero, List.getElem?_cons_succ, dR_sl, Mem.cell, Mem.row, wmA]
        exact hq m (Old.refl m)
    · have h1 : ¬ (u : Int) < 100 := by omega
      have hnd : Lib.nDigits u ≤ 20 := by have := Lib.numDigits_eq u (by omega) hu; split at this <;> omega
      have hdl : (digs 10 u).length = Lib.nDigits u := by rw [← dec_digs, Lib.decDigits_length]
      have hn1 := digs_pos 10 u
      simp -implicitDefEqProofs (disch := first | assumption | (simp only [wnA]; done) | (simp only [wnA]; omega) | omega | fail) [rc47, ro47, rc47_0, wkA, retV, stabOk, dC, ev, fillD, pickCells, putAt, bnd, slD, List.getElem?_cons_zero, List.getElem?_cons_succ, dR_sl, Mem.cell, Mem.row, wmA, h1]
      refine c_calls (v := .int .i64 (Lib.nDigits u)) (by kernel_rfl) rfl rfl (fun G w hs => ?_) ?_
      · refine (Tryz.internal_strconv_numDigits u (by omega) hu w (tab_at ht hs)).mono ?_
        rintro e w' ⟨rfl, rfl⟩
        exact ⟨rfl, Below.refl _ _⟩
      · generalize hN : Lib.nDigits u = n at *
        have hi : (0 : Int) ≤ (n : Int) ∧ (n : Int) ≤ 24 := by omega
        have hn0 : n ≠ 0 := by omega
        have hn24 : n ≤ 24 := by omega
        simp -implicitDefEqProofs (disch := first | assumption | (simp only [wnA]; done) | (simp only [wnA]; omega) | omega | fail) [wkA, retV, stabOk, dC, ev, fillD, pickCells, putAt, bnd, slD, List.getElem?_cons_zero, List.getElem?_cons_succ, dR_sl, Mem.cell, Mem.row, wmA, hi, hn24]
        refine c_fmtB10 (Mem.push_same m _) hN.symm (by simp; omega) (fun j hj => ?_) ⟨by omega, hu⟩ ?_
        · have hj24 : j < 24 := by omega
          have : ∀ k : Fin 24, (List.replicate 24 (Value.int .u8 0))[k.val]? = some (Value.int .u8 0) := fun k => by rw [List.getElem?_replicate, if_pos k.isLt]
          exact this ⟨j, hj24⟩
        · have hgo : ∀ (M : Mem), M.get m.next = .own ((digs 10 u).map byteV ++ (List.replicate 24 (Value.int .u8 0)).drop n) 123 → (((digs 10 u).map byteV ++ (List.replicate 24 (Value.int .u8 0)).drop n).length = 24) → True := fun _ _ _ => trivial
          have hlen24 : ((digs 10 u).map byteV ++ (List.replicate 24 (Value.int .u8 0)).drop n).length = 24 := by
            rw [List.length_append, List.length_map, List.length_drop, List.length_replicate, hdl]; omega
          have ho : ∀ E1 E2, Old m ((m.push E1).set m.next E2) := fun E1 E2 => ((Old.refl m).push E1).set (Nat.le_refl _) E2
          have hbs : ∀ E1, bstr ((m.push E1).set m.next (.own ((digs 10 u).map byteV ++ (List.replicate 24 (Value.int .u8 0)).drop n) 123)) (.slice (some ⟨m.next, 0, none⟩) n 1) = some (.string ⟨⟨digs 10 u⟩⟩) := fun E1 => bstr_pre (Mem.set_same _ _ _) hdl
          have hrep : (List.replicate 24 (Value.int .u8 0)) = [.int .u8 0, .int .u8 0, .int .u8 0, .int .u8 0, .int .u8 0, .int .u8 0, .int .u8 0, .int .u8 0, .int .u8 0, .int .u8 0, .int .u8 0, .int .u8 0, .int .u8 0, .int .u8 0, .int .u8 0, .int .u8 0, .int .u8 0, .int .u8 0, .int .u8 0, .int .u8 0, .int .u8 0, .int .u8 0, .int .u8 0, .int .u8 0] := rfl
          rw [hrep] at hlen24 hbs
          generalize hR : (digs 10 u).map byteV ++ List.drop n [.int .u8 0, .int .u8 0, .int .u8 0, .int .u8 0, .int .u8 0, .int .u8 0, .int .u8 0, .int .u8 0, .int .u8 0, .int .u8 0, .int .u8 0, .int .u8 0, .int .u8 0, .int .u8 0, .int .u8 0, .int .u8 0, .int .u8 0, .int .u8 0, .int .u8 0, .int .u8 0, .int .u8 0, .int .u8 0, .int .u8 0, .int .u8 0] = R at *
          simp -implicitDefEqProofs (disch := first | assumption | (simp only [wnA]; done) | (simp only [wnA]; omega) | omega | fail) [wkA, retV, stabOk, dC, ev, fillD, pickCells, putAt, bnd, slD, List.getElem?_cons_zero, List.getElem?_cons_succ, dR_sl, Mem.cell, Mem.row, wmA, hi, hn24, hlen24, hbs]
          exact hq _ (ho _ _)
  · simp -implicitDefEqProofs (disch := first | assumption | (simp only [wnA]; done) | (simp only [wnA]; omega) | omega | fail) [rc47, ro47, wkA, retV, stabOk, dC, ev, fillD, pickCells, putAt, bnd, slD, List.getElem?_cons_zero, List.getElem?_cons_succ, dR_sl, Mem.cell, Mem.row, wmA, rc47_1]
    refine c_fmtBits (B := 16) (k := 4) (a := u) (neg := false) hp rfl (by omega) (by omega) hu (by simp) pow16 tz16 fun m' ho => ?_
    simp -implicitDefEqProofs (disch := first | assumption | (simp only [wnA]; done) | (simp only [wnA]; omega) | omega | fail) [wkA, retV, stabOk, dC, ev, fillD, pickCells, putAt, bnd, slD, List.getElem?_cons_zero, List.getElem?_cons_succ, dR_sl, Mem.cell, Mem.row, wmA]
    exact hq m' ho
end Go.Proofs.YtiapjjgmmiifmaaGreatDoor.Ab

set_option linter.unusedVariables false
set_option linter.unusedSimpArgs false
namespace Go.Proofs.YtiapjjgmmiifmaaGreatDoor.Ab
open Go Go.RowKit
set_option maxHeartbeats 4000000
set_option maxRecDepth 100000
theorem catB (a b : List UInt8) (h : a.length + b.length ≤ 9223372036854775807) : dBin .add (.string ⟨⟨a⟩⟩) (.string ⟨⟨b⟩⟩) = some (.string ⟨⟨a ++ b⟩⟩) := by
  have e : (ByteArray.mk ⟨a⟩) ++ (ByteArray.mk ⟨b⟩) = ⟨⟨a ++ b⟩⟩ := by
    apply ByteArray.ext
    simp
  rw [dBin_sadd (by show a.length + b.length ≤ _; omega), e]
theorem catE (a b : List UInt8) (h : a.length + b.length ≤ 9223372036854775807) : ∃ e : List UInt8, a ++ b = e ∧ e.length = a.length + b.length ∧ dBin .add (.string ⟨⟨a⟩⟩) (.string ⟨⟨b⟩⟩) = some (.string ⟨⟨e⟩⟩) := ⟨_, rfl, by simp, catB a b h⟩
theorem numS_nat (B n : Nat) : numS B (n : Int) = digs B n := by
  unfold numS sgn
  rw [if_neg (by simp)]
  simp
def sumW : List UInt8 := [115, 117, 109, 32]
def loadW : List UInt8 := [108, 111, 97, 100, 32]
def lineL (a n : Int) (p : Nat) : List UInt8 := sumW ++ numS 16 a ++ [32] ++ numS 16 n ++ [32] ++ digs 16 p ++ [13, 10]
def wayL (k : Nat) : List UInt8 := if k = 0 then [99, 104, 101, 99, 107] else if k = 1 then [99, 114, 99] else if k = 2 then [108, 97, 114, 103, 101] else [98, 97, 116, 99, 104]
def wayN (w : Int) : Nat := if w ≤ 0 then 0 else if w = 1 then 1 else if w = 2 then 2 else 3
def loadL (k : Nat) (a : Int) : List UInt8 := loadW ++ wayL k ++ [32] ++ numS 16 a ++ [13]
theorem num16 {i : Int} (hi : -9223372036854775808 ≤ i ∧ i ≤ 9223372036854775807) : (numS 16 i).length ≤ 17 := numS_len (by omega) (L := 16) (by omega) (by omega)
theorem c_Line {w0 : World} {m : Mem} {a n : Int} {p : Nat} {Q : Value → Mem → Prop} (hp : Part L0 m) (ht : Ten w0) (ha : -9223372036854775808 ≤ a ∧ a ≤ 9223372036854775807) (hn : -9223372036854775808 ≤ n ∧ n ≤ 9223372036854775807) (hpp : p < 4294967296)
    (hq : ∀ m', Old m m' → Q (.string ⟨⟨lineL a n p⟩⟩) m') : AbC Tryz.prog w0 17 [.agg ⟨[.int .i64 a, .int .i64 n, .int .u32 (p : Int)]⟩] m Q := by
  refine AbC_fn ok17 (by simp) ?_
  have la := num16 ha
  have ln := num16 hn
  have lp := digs_64 (b := 16) (by omega) (show p < 18446744073709551616 by omega)
  unfold lineL sumW at hq
  have w1 : IntKind.u64.wrap (p : Int) = (p : Int) := by rw [IntWalk.u64_in]; omega
  have hp1 : Part L0 (m.push (.own [.int .i64 a, .int .i64 n, .int .u32 (p : Int)] 44)) := Old.part hp ((Old.refl m).push _)
  simp -implicitDefEqProofs (disch := first | assumption | (simp only [wnA]; done) | (simp only [wnA]; omega) | omega | fail) [rc17, ro17, wkA, retV, stabOk, dC, ev, fillD, pickCells, putAt, bnd, slD, List.getElem?_cons_zero, List.getElem?_cons_succ, dR.eq_20, Mem.cell, Mem.row, wmA, w1]
  refine c_FormatInt (B := 16) hp1 ht (by omega) ha fun m1 o1 => ?_
  have g1 : m1.get m.next = .own [.int .i64 a, .int .i64 n, .int .u32 (p : Int)] 44 := by rw [o1.2 _ (by simp)]; simp
  generalize numS 16 a = A at *
  obtain ⟨E1, hE1, l1, k1⟩ := catE [115, 117, 109, 32] A (by simp; omega)
  simp only [List.length_cons, List.length_nil] at l1
  obtain ⟨E2, hE2, l2, k2⟩ := catE E1 [32] (by simp; omega)
  simp only [List.length_cons, List.length_nil] at l2
  have k1 : dBin .add (.string ⟨#[115, 117, 109, 32]⟩) (.string ⟨⟨A⟩⟩) = some (.string ⟨⟨E1⟩⟩) := k1
  have k2 : dBin .add (.string ⟨⟨E1⟩⟩) (.string ⟨#[32]⟩) = some (.string ⟨⟨E2⟩⟩) := k2
  rw [hE1, hE2] at hq
  simp -implicitDefEqProofs (disch := first | assumption | (simp only [wnA]; done) | (simp only [wnA]; omega) | omega | fail) [wkA, retV, stabOk, dC, ev, fillD, pickCells, putAt, bnd, slD, List.getElem?_cons_zero, List.getElem?_cons_succ, dR.eq_20, Mem.cell, Mem.row, wmA, k1, k2, g1]
  refine c_FormatInt (B := 16) (Old.part hp1 o1) ht (by omega) hn fun m2 o2 => ?_
  have g2 : m2.get m.next = .own [.int .i64 a, .int .i64 n, .int .u32 (p : Int)] 44 := by
    have : m.next < m1.next := Nat.lt_of_lt_of_le (by simp) o1.1
    rw [o2.2 _ this]; exact g1
  generalize numS 16 n = Z at *
  obtain ⟨E3, hE3, l3, k3⟩ := catE E2 Z (by omega)
  obtain ⟨E4, hE4, l4, k4⟩ := catE E3 [32] (by simp; omega)
  simp only [List.length_cons, List.length_nil] at l4
  have k4 : dBin .add (.string ⟨⟨E3⟩⟩) (.string ⟨#[32]⟩) = some (.string ⟨⟨E4⟩⟩) := k4
  rw [hE3, hE4] at hq
  simp -implicitDefEqProofs (disch := first | assumption | (simp only [wnA]; done) | (simp only [wnA]; omega) | omega | fail) [wkA, retV, stabOk, dC, ev, fillD, pickCells, putAt, bnd, slD, List.getElem?_cons_zero, List.getElem?_cons_succ, dR.eq_20, Mem.cell, Mem.row, wmA, k3, k4, g2, w1]
  refine c_FormatUint (B := 16) (Old.part (Old.part hp1 o1) o2) ht (by omega) (by omega) fun m3 o3 => ?_
  generalize digs 16 p = Y at *
  obtain ⟨E5, hE5, l5, k5⟩ := catE E4 Y (by omega)
  obtain ⟨E6, hE6, l6, k6⟩ := catE E5 [13, 10] (by simp; omega)
  have k6 : dBin .add (.string ⟨⟨E5⟩⟩) (.string ⟨#[13, 10]⟩) = some (.string ⟨⟨E6⟩⟩) := k6
  rw [hE5, hE6] at hq
  simp -implicitDefEqProofs (disch := first | assumption | (simp only [wnA]; done) | (simp only [wnA]; omega) | omega | fail) [wkA, retV, stabOk, dC, ev, fillD, pickCells, putAt, bnd, slD, List.getElem?_cons_zero, List.getElem?_cons_succ, dR.eq_20, Mem.cell, Mem.row, wmA, k5, k6]
  exact hq _ ((((Old.refl m).push _).trans o1).trans (o2.trans o3))
theorem way_k (w : Int) : ∃ k : Nat, k < 4 ∧ wayN w = k ∧ (if (0 : Int) < (if (3 : Int) < w then 3 else w) then (if (3 : Int) < w then 3 else w) else 0) = (k : Int) := by
  unfold wayN
  by_cases h0 : w ≤ 0
  · exact ⟨0, by omega, by rw [if_pos h0], by split <;> split <;> omega⟩
  by_cases h1 : w = 1
  · subst h1; exact ⟨1, by omega, by simp, by simp⟩
  by_cases h2 : w = 2
  · subst h2; exact ⟨2, by omega, by simp, by simp⟩
  · exact ⟨3, by omega, by rw [if_neg h0, if_neg h1, if_neg h2], by split <;> split <;> omega⟩
def waysC : List Value := [.string ⟨⟨wayL 0⟩⟩, .string ⟨⟨wayL 1⟩⟩, .string ⟨⟨wayL 2⟩⟩, .string ⟨⟨wayL 3⟩⟩]
theorem ways_at {k : Nat} (hk : k < 4) : waysC[k]? = some (.string ⟨⟨wayL k⟩⟩) := by
  rcases (show k = 0 ∨ k = 1 ∨ k = 2 ∨ k = 3 by omega) with rfl | rfl | rfl | rfl <;> rfl
theorem c_Ways {w0 : World} {m : Mem} {Q : Value → Mem → Prop} (hq : Q (.slice (some ⟨m.next, 0, none⟩) 4 1) (m.push (.own waysC 9))) : AbC Tryz.prog w0 35 [] m Q := by
  refine AbC_fn ok35 (by simp) ?_
  simp -implicitDefEqProofs (disch := first | assumption | (simp only [wnA]; done) | (simp only [wnA]; omega) | omega | fail) [rc35, ro35, wkA, retV, stabOk, dC, ev, fillD, pickCells, putAt, bnd, slD, List.getElem?_cons_zero, List.getElem?_cons_succ, dR.eq_20, Mem.cell, Mem.row, wmA]
  rw [SK_bsl (cs := waysC) (by simp [fillD, pickCells, wkA, retV, stabOk, dC, ev, fillD, pickCells, putAt, bnd, slD, List.getElem?_cons_zero, List.getElem?_cons_succ, dR.eq_20, waysC, wayL]) rfl]
  simp -implicitDefEqProofs (disch := first | assumption | (simp only [wnA]; done) | (simp only [wnA]; omega) | omega | fail) [wkA, retV, stabOk, dC, ev, fillD, pickCells, putAt, bnd, slD, List.getElem?_cons_zero, List.getElem?_cons_succ, dR.eq_20, Mem.cell, Mem.row, wmA]
  exact hq
theorem c_Load {w0 : World} {m : Mem} {w a : Int} {Q : Value → Mem → Prop} (hp : Part L0 m) (ht : Ten w0) (ha : -9223372036854775808 ≤ a ∧ a ≤ 9223372036854775807)
    (hq : ∀ m', Old m m' → Q (.string ⟨⟨loadL (wayN w) a⟩⟩) m') : AbC Tryz.prog w0 18 [.int .i64 w, .int .i64 a] m Q := by
  refine AbC_fn ok18 (by simp) ?_
  have la := num16 ha
  unfold loadL loadW at hq
  obtain ⟨k, hk, hk1, hk2⟩ := way_k w
  rw [hk1] at hq
  simp -implicitDefEqProofs (disch := first | assumption | (simp only [wnA]; done) | (simp only [wnA]; omega) | omega | fail) [rc18, ro18, wkA, retV, stabOk, dC, ev, fillD, pickCells, putAt, bnd, slD, List.getElem?_cons_zero, List.getElem?_cons_succ, dR.eq_20, Mem.cell, Mem.row, wmA, hk2]
  refine c_Ways ?_
  have hidx : sidx 1 (.slice (some ⟨m.next, 0, none⟩) 4 1) (.int .i64 (k : Int)) = some (.pointer (some ⟨m.next, 0 + k * 1, none⟩)) := sidx_at hk
  have hat := ways_at hk
  have hw : (wayL k).length ≤ 5 := by rcases (show k = 0 ∨ k = 1 ∨ k = 2 ∨ k = 3 by omega) with rfl | rfl | rfl | rfl <;> decide
  have hg : (m.push (.own waysC 9)).get m.next = .own waysC 9 := by simp
  have hp1 : Part L0 (m.push (.own waysC 9)) := Old.part hp ((Old.refl m).push _)
  have o0 : Old m (m.push (.own waysC 9)) := (Old.refl m).push _
  have hm : m.next < (m.push (.own waysC 9)).next := by simp
  generalize m.push (.own waysC 9) = m0 at *
  generalize wayL k = W at *
  generalize waysC = C at *
  obtain ⟨E1, hE1, l1, k1⟩ := catE [108, 111, 97, 100, 32] W (by simp; omega)
  simp only [List.length_cons, List.length_nil] at l1
  obtain ⟨E2, hE2, l2, k2⟩ := catE E1 [32] (by simp; omega)
  simp only [List.length_cons, List.length_nil] at l2
  have k1 : dBin .add (.string ⟨#[108, 111, 97, 100, 32]⟩) (.string ⟨⟨W⟩⟩) = some (.string ⟨⟨E1⟩⟩) := k1
  have k2 : dBin .add (.string ⟨⟨E1⟩⟩) (.string ⟨#[32]⟩) = some (.string ⟨⟨E2⟩⟩) := k2
  rw [hE1, hE2] at hq
  have hidx : sidx 1 (.slice (some ⟨m.next, 0, none⟩) 4 1) (.int .i64 (k : Int)) = some (.pointer (some ⟨m.next, k, none⟩)) := by rw [hidx]; simp
  obtain ⟨hlt, hat'⟩ := List.getElem?_eq_some_iff.1 hat
  simp -implicitDefEqProofs (disch := first | assumption | (simp only [wnA]; done) | (simp only [wnA]; omega) | omega | fail) [wkA, retV, stabOk, dC, ev, fillD, pickCells, putAt, bnd, slD, List.getElem?_cons_zero, List.getElem?_cons_succ, dR.eq_20, Mem.cell, Mem.row, wmA, hk2, hidx, hg, hat, hat', hlt, k1, k2]
  refine c_FormatInt (B := 16) hp1 ht (by omega) ha fun m1 o1 => ?_
  have g1 : m1.get m.next = .own C 9 := by rw [o1.2 _ hm]; exact hg
  generalize numS 16 a = A at *
  obtain ⟨E3, hE3, l3, k3⟩ := catE E2 A (by omega)
  obtain ⟨E4, hE4, l4, k4⟩ := catE E3 [13] (by simp; omega)
  have k4 : dBin .add (.string ⟨⟨E3⟩⟩) (.string ⟨#[13]⟩) = some (.string ⟨⟨E4⟩⟩) := k4
  rw [hE3, hE4] at hq
  simp -implicitDefEqProofs (disch := first | assumption | (simp only [wnA]; done) | (simp only [wnA]; omega) | omega | fail) [wkA, retV, stabOk, dC, ev, fillD, pickCells, putAt, bnd, slD, List.getElem?_cons_zero, List.getElem?_cons_succ, dR.eq_20, Mem.cell, Mem.row, wmA, k3, k4, g1, hat, hat', hlt]
  exact hq _ (o0.trans o1)
end Go.Proofs.YtiapjjgmmiifmaaGreatDoor.Ab

set_option linter.unusedVariables false
set_option linter.unusedSimpArgs false
namespace Go.Proofs.YtiapjjgmmiifmaaGreatDoor.Ab
open Go Go.RowKit
set_option maxHeartbeats 4000000
set_option maxRecDepth 100000
inductive Tak where
  | no
  | plain (r : Rc)
  | files (b : Br)
noncomputable def Tak.put : Tak → List UInt8 → Tak × List UInt8
  | .no, _ => (.no, [])
  | .plain r, b => (.plain (rPutF r b).1, (rPutF r b).2)
  | .files r, b => (.files (bPutF r b).1, (bPutF r b).2)
def Tak.over : Tak → Bool
  | .no => false
  | .plain r => r.over
  | .files r => r.over
def Tak.err : Tak → Nat
  | .no => 0
  | .plain r => r.err
  | .files r => r.err
def Tak.data : Tak → List UInt8
  | .no => []
  | .plain r => r.data
  | .files r => r.data
/-- How many bytes it holds at most. -/
def Tak.sz : Tak → Nat
  | .no => 0
  | .plain r => r.data.length + r.buffer.length
  | .files r => r.part.data.length + r.part.buffer.length
def TakR (H : HL) (v : Value) : Tak → Prop
  | .no => H = [] ∧ v = .nilIface
  | .plain r => ∃ ir, v = .iface 91 (.pointer (some ⟨ir, 0, none⟩)) ∧ RcR H ir r
  | .files r => ∃ ib, v = .iface 92 (.pointer (some ⟨ib, 0, none⟩)) ∧ BrR H ib r
structure TgS where
  mem : List UInt8
  tr : Int
  wt : Int
  asleep : Bool
  line : List UInt8
  tak : Tak
  addr : Int
  reps : List (Int × Int × Nat)
def repC (r : Int × Int × Nat) : List Value := [.int .i64 r.1, .int .i64 r.2.1, .int .u32 (r.2.2 : Int)]
theorem repC_len (r : Int × Int × Nat) : (repC r).length = 3 := rfl
def tgC (s : TgS) (sp : Nat) (vl tv vr : Value) : List Value := [.pointer (some ⟨sp, 0, none⟩), .int .i64 s.tr, .int .i64 s.wt, .bool s.asleep, vl, tv, .int .i64 s.addr, vr]
def reH (ob : Option Nat) (l : List (Int × Int × Nat)) : Option Nat × Ent := (ob, .own (l.flatMap repC) 44)
def tgH (it sp : Nat) (ol orr : Option Nat) (tv : Value) (s : TgS) : HL := [(some it, .own (tgC s sp (slV ol s.line.length 1) tv (slV orr s.reps.length 3)) 34), stH sp s.mem, byH ol s.line, reH orr s.reps]
structure TgR (H : HL) (it : Nat) (s : TgS) : Prop where
  ex : ∃ sp ol orr tv HT, H = tgH it sp ol orr tv s ++ HT ∧ TakR HT tv s.tak ∧ (ol = none → s.line.length = 0) ∧ (orr = none → s.reps.length = 0)
  ml : s.mem.length = 16384
  ll : s.line.length ≤ 80
theorem m_rPut : methOf Tryz.prog 91 "Put" = some 43 := by kernel_rfl
theorem m_rDone : methOf Tryz.prog 91 "Done" = some 51 := by kernel_rfl
theorem m_rData : methOf Tryz.prog 91 "Data" = some 52 := by kernel_rfl
theorem m_bPut : methOf Tryz.prog 92 "Put" = some 42 := by kernel_rfl
theorem m_bDone : methOf Tryz.prog 92 "Done" = some 49 := by kernel_rfl
theorem m_bData : methOf Tryz.prog 92 "Data" = some 50 := by kernel_rfl
/-- What takes is told of by its name: one call for both kinds. -/
theorem call_takPut {w0 : World} {V : Nat → Prop} {m : Mem} {H : HL} {tv v : Value} {k : Tak} {b : List UInt8} {ts : Fr} {x y : Operand} {R : Value → Mem → Prop} (ht : Ten w0) (hE : ErrV w0) (h : Sep m V m H) (hk : TakR H tv k) (hne : k ≠ .no) (hr : RdV V m 1 v (b.map byteV) b.length)
    (hbig : k.sz + b.length + 1024 ≤ 140737488355328) (hx : ev ts x = tv) (hy : ev ts y = v)
    (hq : ∀ oo H' M, Sep m V M (byH oo (k.put b).2 :: H') → TakR H' tv (k.put b).1 → (oo = none → (k.put b).2.length = 0) → R (slV oo (k.put b).2.length 1) M) :
    SK Tryz.prog w0 (.c (.inv x "Put" [y])) ts m R := by
  cases k with
  | no => exact absurd rfl hne
  | plain r =>
    obtain ⟨ir, rfl, hR⟩ := hk
    simp only [SK, dC, hx, m_rPut, List.map_cons, List.map_nil, hy]
    simp only [Tak.sz] at hbig
    exact c_rPut h hR hr (by omega) (by omega) fun oo H' M h1 h2 h3 => hq oo H' M h1 ⟨ir, rfl, h2⟩ h3
  | files r =>
    obtain ⟨ib, rfl, hR⟩ := hk
    simp only [SK, dC, hx, m_bPut, List.map_cons, List.map_nil, hy]
    simp only [Tak.sz] at hbig
    exact c_bPut ht hE h hR hr (by omega) (by omega) fun oo H' M h1 h2 h3 => hq oo H' M h1 ⟨ib, rfl, h2⟩ h3
theorem call_takDone {w0 : World} {V : Nat → Prop} {m0 m : Mem} {l H : HL} {tv : Value} {k : Tak} {ts : Fr} {x : Operand} {R : Value → Mem → Prop} (h : Sep m0 V m l) (hk : TakR H tv k) (hs : ∀ p ∈ H, p ∈ l) (hne : k ≠ .no) (hx : ev ts x = tv)
    (hq : R (.tuple ⟨[.bool k.over, errV k.err]⟩) m) : SK Tryz.prog w0 (.c (.inv x "Done" [])) ts m R := by
  cases k with
  | no => exact absurd rfl hne
  | plain r =>
    obtain ⟨ir, rfl, hR⟩ := hk
    obtain ⟨⟨ob, od, rfl, hb, hd⟩, hw⟩ := hR
    simp only [SK, dC, hx, m_rDone, List.map_nil]
    obtain ⟨q, hq'⟩ := List.mem_iff_getElem?.1 (hs _ (List.mem_cons_self ..))
    exact c_rDone h q hq' hq
  | files r =>
    obtain ⟨ib, rfl, hR⟩ := hk
    simp only [SK, dC, hx, m_bDone, List.map_nil]
    exact c_bDone h hR hs hq
theorem call_takData {w0 : World} {V : Nat → Prop} {m : Mem} {H : HL} {tv : Value} {k : Tak} {ts : Fr} {x : Operand} {R : Value → Mem → Prop} (h : Sep m V m H) (hk : TakR H tv k) (hne : k ≠ .no) (hbig : k.sz ≤ 140737488355328) (hx : ev ts x = tv)
    (hq : ∀ oo M, Sep m V M (byH oo k.data :: H) → (oo = none → k.data.length = 0) → R (slV oo k.data.length 1) M) : SK Tryz.prog w0 (.c (.inv x "Data" [])) ts m R := by
  cases k with
  | no => exact absurd rfl hne
  | plain r =>
    obtain ⟨ir, rfl, hR⟩ := hk
    simp only [SK, dC, hx, m_rData, List.map_nil]
    simp only [Tak.sz] at hbig
    exact c_rData h hR (by omega) hq
  | files r =>
    obtain ⟨ib, rfl, hR⟩ := hk
    simp only [SK, dC, hx, m_bData, List.map_nil]
    exact c_bData h hR hq
end Go.Proofs.YtiapjjgmmiifmaaGreatDoor.Ab

set_option linter.unusedVariables false
set_option linter.unusedSimpArgs false
namespace Go.Proofs.YtiapjjgmmiifmaaGreatDoor.Ab
open Go Go.RowKit
set_option maxHeartbeats 4000000
set_option maxRecDepth 100000
def hexN (l : List UInt8) : Option Nat := match puL 16 4294967295 0 l with
  | some v => if digs 16 v = l then some v else none
  | none => none
theorem puL_le {B M : Nat} : ∀ (l : List UInt8) (n v : Nat), n ≤ M → puL B M n l = some v → v ≤ M
  | [], n, v, h, e => by cases e; exact h
  | c :: l, n, v, h, e => by
    simp only [puL] at e
    split at e
    · rename_i n' hn
      refine puL_le l n' v ?_ e
      unfold puStep at hn
      split at hn
      · split at hn
        · rename_i hh; cases hn; exact hh.2
        · cases hn
      · cases hn
    · cases e
theorem hexN_lt {l : List UInt8} {n : Nat} (h : hexN l = some n) : n < 4294967296 := by
  unfold hexN at h
  split at h
  · rename_i v hv
    have := puL_le l 0 v (by omega) hv
    split at h
    · cases h; omega
    · cases h
  · cases h
theorem hexN_digs {n : Nat} (h : n < 4294967296) : hexN (digs 16 n) = some n := by
  unfold hexN
  rw [puL_digs (by omega) n (by omega)]
  simp
theorem c_hex {w0 : World} {m : Mem} {s : List UInt8} {Q : Value → Mem → Prop} (hp : Part L0 m) (ht : Ten w0) (hE : ErrV w0) (hs : s.length ≤ 1000000)
    (h1 : ∀ M (n : Nat), Old m M → hexN s = some n → Q (.tuple ⟨[.int .i64 (n : Int), .bool true]⟩) M) (h0 : ∀ M (z : Int), Old m M → hexN s = none → Q (.tuple ⟨[.int .i64 z, .bool false]⟩) M) :
    AbC Tryz.prog w0 63 [.string ⟨⟨s⟩⟩] m Q := by
  refine AbC_fn ok63 (by simp) ?_
  simp -implicitDefEqProofs (disch := first | assumption | omega | fail) [rc63, ro63, wkB, retV, stabOk, dC, ev, fillD, pickCells, putAt, bnd, slD, List.getElem?_cons_zero, List.getElem?_cons_succ, Mem.cell, Mem.row, cells_own, cells_ro]
  refine c_ParseUint (B := 16) (M := 4294967295) (bits := 32) hE (by omega) (.inl ⟨rfl, rfl⟩) (by show s.length ≤ _; omega) (fun M v p o he => ?_) fun M v o hs0 hv => ?_
  · simp -implicitDefEqProofs (disch := first | assumption | omega | fail) [wkB, retV, stabOk, dC, ev, fillD, pickCells, putAt, bnd, slD, List.getElem?_cons_zero, List.getElem?_cons_succ, Mem.cell, Mem.row, cells_own, cells_ro]
    refine h0 M _ o ?_
    unfold hexN
    rcases he with he | he
    · have : s = [] := List.length_eq_zero_iff.1 he
      subst this
      simp only [puL]
      rw [digs_lt (by omega)]
      simp
    · have he : puL 16 4294967295 0 s = none := he
      rw [he]
  · have hv : puL 16 4294967295 0 s = some v := hv
    have hle := puL_le s 0 v (by omega) hv
    have w1 : IntKind.i64.wrap (v : Int) = (v : Int) := w64 (by omega)
    simp -implicitDefEqProofs (disch := first | assumption | omega | fail) [wkB, retV, stabOk, dC, ev, fillD, pickCells, putAt, bnd, slD, List.getElem?_cons_zero, List.getElem?_cons_succ, Mem.cell, Mem.row, cells_own, cells_ro, w1]
    refine c_FormatUint (B := 16) (Old.part hp o) ht (by omega) (by omega) fun M2 o2 => ?_
    by_cases he : digs 16 v = s
    · have e2 : (digs 16 v == s) = true := by simp [he]
      simp -implicitDefEqProofs (disch := first | assumption | omega | fail) [wkB, retV, stabOk, dC, ev, fillD, pickCells, putAt, bnd, slD, List.getElem?_cons_zero, List.getElem?_cons_succ, Mem.cell, Mem.row, cells_own, cells_ro, e2]
      exact h1 M2 v (o.trans o2) (by unfold hexN; rw [hv]; simp [he])
    · have e2 : (digs 16 v == s) = false := by simp [he]
      simp -implicitDefEqProofs (disch := first | assumption | omega | fail) [wkB, retV, stabOk, dC, ev, fillD, pickCells, putAt, bnd, slD, List.getElem?_cons_zero, List.getElem?_cons_succ, Mem.cell, Mem.row, cells_own, cells_ro, e2]
      exact h0 M2 _ (o.trans o2) (by unfold hexN; rw [hv]; simp [he])
def wayIx (l : List UInt8) : Option Nat := if l = wayL 0 then some 0 else if l = wayL 1 then some 1 else if l = wayL 2 then some 2 else if l = wayL 3 then some 3 else none
def begF (s : TgS) (k : Nat) (a : Int) : TgS := { s with addr := a, tak := if k = 3 then .files (bTake s.tr s.wt) else .plain (rOf s.tr s.wt 1 (decide (k ≠ 0)) true 1) }
def wayCs : List Value := [.string ⟨⟨wayL 0⟩⟩, .string ⟨⟨wayL 1⟩⟩, .string ⟨⟨wayL 2⟩⟩, .string ⟨⟨wayL 3⟩⟩]
theorem wayCs_at {j : Nat} (h : j < 4) : wayCs[j]? = some (.string ⟨⟨wayL j⟩⟩) := by
  rcases (show j = 0 ∨ j = 1 ∨ j = 2 ∨ j = 3 by omega) with rfl | rfl | rfl | rfl <;> rfl
theorem c_begin {w0 : World} {V : Nat → Prop} {m0 m : Mem} {it sp : Nat} {ol orr : Option Nat} {s : TgS} {way : List UInt8} {a : Int} {Q : Value → Mem → Prop} (h : Sep m0 V m (tgH it sp ol orr .nilIface s))
    (h1 : ∀ M k tv HT, wayIx way = some k → Sep m0 V M (tgH it sp ol orr tv (begF s k a) ++ HT) → TakR HT tv (begF s k a).tak → Q (.bool true) M)
    (h0 : ∀ M, wayIx way = none → Sep m0 V M (tgH it sp ol orr .nilIface s) → Q (.bool false) M) :
    AbC Tryz.prog w0 64 [.pointer (some ⟨it, 0, none⟩), .string ⟨⟨way⟩⟩, .int .i64 a] m Q := by
  refine AbC_fn ok64 (by simp) ?_
  simp -implicitDefEqProofs (disch := first | assumption | omega | fail) [rc64, ro64, wkB, retV, stabOk, dC, ev, fillD, pickCells, putAt, bnd, slD, List.getElem?_cons_zero, List.getElem?_cons_succ, Mem.cell, Mem.row, cells_own, cells_ro]
  refine AbC_fn ok35 (by simp) ?_
  simp -implicitDefEqProofs (disch := first | assumption | omega | fail) [rc35, ro35, wkB, retV, stabOk, dC, ev, fillD, pickCells, putAt, bnd, slD, List.getElem?_cons_zero, List.getElem?_cons_succ, Mem.cell, Mem.row, cells_own, cells_ro]
  refine SK_bslS h (cs := wayCs) (by simp [fillD, pickCells, wkB, retV, stabOk, dC, ev, fillD, pickCells, putAt, bnd, slD, List.getElem?_cons_zero, List.getElem?_cons_succ, Mem.cell, Mem.row, cells_own, cells_ro, wayCs, wayL]) rfl fun bw m1 hh1 _ _ => ?_
  simp -implicitDefEqProofs (disch := first | assumption | omega | fail) [wkB, retV, stabOk, dC, ev, fillD, pickCells, putAt, bnd, slD, List.getElem?_cons_zero, List.getElem?_cons_succ, Mem.cell, Mem.row, cells_own, cells_ro]
  refine LoopW_of (fun k ts m' => ∃ j, j + k = 4 ∧ m' = m1 ∧ (∀ i, i < j → way ≠ wayL i) ∧ ts 0 = .pointer (some ⟨it, 0, none⟩) ∧ ts 1 = .string ⟨⟨way⟩⟩ ∧ ts 2 = .int .i64 a ∧ ts 9 = .slice (some ⟨bw, 0, none⟩) 4 1 ∧ ts 10 = .int .i64 4 ∧ ts 11 = .int .i64 (j : Nat)) 4 ?_ ?_
  · exact ⟨0, by omega, rfl, fun i hi => by omega, by simp [frA_at], by simp [frA_at], by simp [frA_at], by simp, by simp, by simp⟩
  · rintro k ts m' K ⟨j, hj, rfl, hne, t0, t1, t2, t9, t10, t11⟩ hK
    by_cases hj4 : j < 4
    · have hj8 : (j : Int) < 4 := by omega
      have hidx : sidx 1 (.slice (some ⟨bw, 0, none⟩) 4 1) (.int .i64 (j : Int)) = some (.pointer (some ⟨bw, j, none⟩)) := by simpa using sidx_at (b := bw) (o := 0) (n := 4) (c := 1) (j := j) (sz := 1) (k := .i64) hj4
      have gw := hh1.get 0 rfl
      have hc := wayCs_at hj4
      have w1 : IntKind.i64.wrap ((j : Int) + 1) = (j : Int) + 1 := w64 (by omega)
      obtain ⟨C, hC⟩ : ∃ C, wayCs = C := ⟨_, rfl⟩
      rw [hC] at gw hc
      by_cases hw : way = wayL j
      · have hw2 : (!(wayL j == way)) = false := by simp [hw]
        have hix : wayIx way = some j := by
          subst hw
          rcases (show j = 0 ∨ j = 1 ∨ j = 2 ∨ j = 3 by omega) with rfl | rfl | rfl | rfl <;> decide
        have hh2 := hh1.tl
        simp -implicitDefEqProofs (disch := first | assumption | omega | fail) [rc64_3, rc64_2, wkB, retV, stabOk, dC, ev, fillD, pickCells, putAt, bnd, slD, List.getElem?_cons_zero, List.getElem?_cons_succ, Mem.cell, Mem.row, cells_own, cells_ro, t0, t1, t2, t9, t10, t11, hj8, hidx, gw, hc, getL1 hc, hw2, rc64_1]
        refine SK_stS hh2 0 rfl (o := 6) (vs := [.int .i64 a]) (cs' := tgC { s with addr := a } sp (slV ol s.line.length 1) .nilIface (slV orr s.reps.length 3)) (by simp [wkB, retV, stabOk, dC, ev, fillD, pickCells, putAt, bnd, slD, List.getElem?_cons_zero, List.getElem?_cons_succ, Mem.cell, Mem.row, cells_own, cells_ro]) (by simp [wkB, retV, stabOk, dC, ev, fillD, pickCells, putAt, bnd, slD, List.getElem?_cons_zero, List.getElem?_cons_succ, Mem.cell, Mem.row, cells_own, cells_ro]) (by simp [tgC]) rfl rfl (by simp [tgC, putAt]) fun m2 h2 _ => ?_
        have g2 := h2.get 0 rfl
        simp only [tgC] at g2
        by_cases h3 : j = 3
        · subst h3
          simp -implicitDefEqProofs (disch := first | assumption | omega | fail) [wkB, retV, stabOk, dC, ev, fillD, pickCells, putAt, bnd, slD, List.getElem?_cons_zero, List.getElem?_cons_succ, Mem.cell, Mem.row, cells_own, cells_ro, t0, t11, g2]
          refine c_bTake h2 fun ib H M hM hR => ?_
          simp -implicitDefEqProofs (disch := first | assumption | omega | fail) [wkB, retV, stabOk, dC, ev, fillD, pickCells, putAt, bnd, slD, List.getElem?_cons_zero, List.getElem?_cons_succ, Mem.cell, Mem.row, cells_own, cells_ro]
          have hM := hM.perm List.perm_append_comm
          refine SK_stS hM 0 rfl (o := 5) (vs := [.iface 92 (.pointer (some ⟨ib, 0, none⟩))]) (cs' := tgC (begF s 3 a) sp (slV ol s.line.length 1) (.iface 92 (.pointer (some ⟨ib, 0, none⟩))) (slV orr s.reps.length 3)) (by simp [wkB, retV, stabOk, dC, ev, fillD, pickCells, putAt, bnd, slD, List.getElem?_cons_zero, List.getElem?_cons_succ, Mem.cell, Mem.row, cells_own, cells_ro]) (by simp [wkB, retV, stabOk, dC, ev, fillD, pickCells, putAt, bnd, slD, List.getElem?_cons_zero, List.getElem?_cons_succ, Mem.cell, Mem.row, cells_own, cells_ro]) (by simp [tgC]) rfl rfl (by simp [tgC, putAt, begF]) fun m4 h4 _ => ?_
          simp -implicitDefEqProofs (disch := first | assumption | omega | fail) [wkB, retV, stabOk, dC, ev, fillD, pickCells, putAt, bnd, slD, List.getElem?_cons_zero, List.getElem?_cons_succ, Mem.cell, Mem.row, cells_own, cells_ro, rc64_0]
          exact h1 m4 3 _ H hix h4 ⟨ib, rfl, hR⟩
        · have h3' : ((j : Int) == 3) = false := beq_eq_false_iff_ne.2 (by omega)
          have e0 : ((j : Int) != 0) = decide (j ≠ 0) := by by_cases hh : j = 0 <;> simp [hh]
          simp -implicitDefEqProofs (disch := first | assumption | omega | fail) [wkB, retV, stabOk, dC, ev, fillD, pickCells, putAt, bnd, slD, List.getElem?_cons_zero, List.getElem?_cons_succ, Mem.cell, Mem.row, cells_own, cells_ro, t0, t11, g2, h3', e0]
          refine c_rOf (n := 1) h2 fun ir H M hM hR => ?_
          simp -implicitDefEqProofs (disch := first | assumption | omega | fail) [wkB, retV, stabOk, dC, ev, fillD, pickCells, putAt, bnd, slD, List.getElem?_cons_zero, List.getElem?_cons_succ, Mem.cell, Mem.row, cells_own, cells_ro]
          have hM := hM.perm List.perm_append_comm
          refine SK_stS hM 0 rfl (o := 5) (vs := [.iface 91 (.pointer (some ⟨ir, 0, none⟩))]) (cs' := tgC (begF s j a) sp (slV ol s.line.length 1) (.iface 91 (.pointer (some ⟨ir, 0, none⟩))) (slV orr s.reps.length 3)) (by simp [wkB, retV, stabOk, dC, ev, fillD, pickCells, putAt, bnd, slD, List.getElem?_cons_zero, List.getElem?_cons_succ, Mem.cell, Mem.row, cells_own, cells_ro]) (by simp [wkB, retV, stabOk, dC, ev, fillD, pickCells, putAt, bnd, slD, List.getElem?_cons_zero, List.getElem?_cons_succ, Mem.cell, Mem.row, cells_own, cells_ro]) (by simp [tgC]) rfl rfl (by simp [tgC, putAt, begF]) fun m4 h4 _ => ?_
          simp -implicitDefEqProofs (disch := first | assumption | omega | fail) [wkB, retV, stabOk, dC, ev, fillD, pickCells, putAt, bnd, slD, List.getElem?_cons_zero, List.getElem?_cons_succ, Mem.cell, Mem.row, cells_own, cells_ro, rc64_0]
          refine h1 m4 j _ H hix h4 ?_
          simp only [begF, if_neg h3]
          exact ⟨ir, rfl, by simpa using hR⟩
      · have hw2 : (!(wayL j == way)) = true := by simp; exact fun e => hw e.symm
        simp -implicitDefEqProofs (disch := first | assumption | omega | fail) [rc64_3, rc64_2, wkB, retV, stabOk, dC, ev, fillD, pickCells, putAt, bnd, slD, List.getElem?_cons_zero, List.getElem?_cons_succ, Mem.cell, Mem.row, cells_own, cells_ro, t0, t1, t2, t9, t10, t11, hj8, hidx, gw, hc, getL1 hc, hw2, w1]
        exact hK (k - 1) _ _ (by omega) ⟨j + 1, by omega, rfl, fun i hi => by
          by_cases e : i = j
          · subst e; exact hw
          · exact hne i (by omega), by simp [t0], by simp [t1], by simp [t2], by simp [t9], by simp [t10], by simp⟩
    · have hjj : j = 4 := by omega
      subst hjj
      have hix : wayIx way = none := by
        unfold wayIx
        rw [if_neg (hne 0 (by omega)), if_neg (hne 1 (by omega)), if_neg (hne 2 (by omega)), if_neg (hne 3 (by omega))]
      simp -implicitDefEqProofs (disch := first | assumption | omega | fail) [rc64_3, rc64_4, wkB, retV, stabOk, dC, ev, fillD, pickCells, putAt, bnd, slD, List.getElem?_cons_zero, List.getElem?_cons_succ, Mem.cell, Mem.row, cells_own, cells_ro, t10, t11]
      exact h0 m' hix hh1.tl
end Go.Proofs.YtiapjjgmmiifmaaGreatDoor.Ab

set_option linter.unusedVariables false
set_option linter.unusedSimpArgs false
namespace Go.Proofs.YtiapjjgmmiifmaaGreatDoor.Ab
open Go Go.RowKit
set_option maxHeartbeats 4000000
set_option maxRecDepth 100000
def proL : List UInt8 := [13, 10, 61, 62, 32]
def qryL : List UInt8 := 63 :: proL
def load4 : List UInt8 := [108, 111, 97, 100]
def sum3 : List UInt8 := [115, 117, 109]
def loadR (s : TgS) (w b c : List UInt8) : Option TgS := if w = load4 then (match hexN c, wayIx b with | some a, some k => some (begF s k a) | _, _ => none) else none
def sumR (s : TgS) (w b c : List UInt8) : Option (Int × Int × Nat) := if w = sum3 then (match hexN b, hexN c with | some x, some y => if fitsF x y = true then some ((x : Int), (y : Int), prN ((s.mem.drop x).take y)) else none | _, _ => none) else none
def elseF (line : List UInt8) : List UInt8 := if line = [] then proL else qryL
def doesF (s : TgS) (line : List UInt8) : TgS × List UInt8 := match words 32 line with
  | [w, b, c] => match loadR s w b c with
    | some s' => (s', [])
    | none => match sumR s w b c with
      | some r => ({ s with reps := s.reps ++ [r] }, lineL r.1 r.2.1 r.2.2 ++ [61, 62, 32])
      | none => (s, elseF line)
  | _ => (s, elseF line)
theorem words3 {line w b c : List UInt8} (h : words 32 line = [w, b, c]) : w.length ≤ line.length ∧ b.length ≤ line.length ∧ c.length ≤ line.length := by
  have hj := splitK_join (c := 32) (line.count 32) line
  rw [show Lib.splitK [32] 0 (line.count 32) line = words 32 line from rfl, h] at hj
  simp only [joinC] at hj
  have := congrArg List.length hj
  simp at this
  omega
theorem c_hexQ {w0 : World} {m : Mem} {s : List UInt8} {Q : Value → Mem → Prop} (hp : Part L0 m) (ht : Ten w0) (hE : ErrV w0) (hs : s.length ≤ 1000000)
    (hq : ∀ M (z : Int) (b : Bool), Old m M → (b = true → ∃ n : Nat, hexN s = some n ∧ z = n) → (b = false → hexN s = none) → Q (.tuple ⟨[.int .i64 z, .bool b]⟩) M) :
    AbC Tryz.prog w0 63 [.string ⟨⟨s⟩⟩] m Q :=
  c_hex hp ht hE hs (fun M n o h => hq M n true o (fun _ => ⟨n, h, rfl⟩) fun e => by cases e) fun M z o h => hq M z false o (fun e => by cases e) fun _ => h
theorem c_tdoes {w0 : World} {V : Nat → Prop} {m : Mem} {H : HL} {it : Nat} {s : TgS} {line : List UInt8} {Q : Value → Mem → Prop} (ht : Ten w0) (hE : ErrV w0) (h : Sep m V m H) (hR : TgR H it s) (hno : s.tak = .no) (hl : line.length ≤ 80) (hrl : s.reps.length ≤ 1000000000)
    (hq : ∀ M H', Sep m V M H' → TgR H' it (doesF s line).1 → Q (.string ⟨⟨(doesF s line).2⟩⟩) M) :
    AbC Tryz.prog w0 45 [.pointer (some ⟨it, 0, none⟩), .string ⟨⟨line⟩⟩] m Q := by
  refine AbC_fn ok45 (by simp) ?_
  obtain ⟨⟨sp, ol, orr, tv, HT, rfl, hT, hol, hor⟩, hml, hll⟩ := hR
  rw [hno] at hT
  obtain ⟨rfl, rfl⟩ := hT
  have hR0 : TgR (tgH it sp ol orr .nilIface s ++ []) it s := ⟨⟨sp, ol, orr, .nilIface, [], rfl, by rw [hno]; exact ⟨rfl, rfl⟩, hol, hor⟩, hml, hll⟩
  have fin : ∀ fr M, Sep m V M (tgH it sp ol orr .nilIface s) → fr 1 = .string ⟨⟨line⟩⟩ → doesF s line = (s, elseF line) → AbW Tryz.prog w0 rc45_1 (bodyA [.mv (.tmp 4)] Q) fr M := by
    intro fr M hM t1 hd
    rw [hd] at hq
    by_cases hn : line = []
    · subst hn
      simp -implicitDefEqProofs (disch := first | assumption | omega | fail) [rc45_1, wkB, retV, stabOk, dC, ev, fillD, pickCells, putAt, bnd, slD, List.getElem?_cons_zero, List.getElem?_cons_succ, Mem.cell, Mem.row, cells_own, cells_ro, t1]
      exact hq M _ (by simpa using hM) hR0
    · have hn2 : (line == []) = false := by simpa using hn
      have e1 : elseF line = qryL := by unfold elseF; rw [if_neg hn]
      rw [e1] at hq
      simp -implicitDefEqProofs (disch := first | assumption | omega | fail) [rc45_1, rc45_0, wkB, retV, stabOk, dC, ev, fillD, pickCells, putAt, bnd, slD, List.getElem?_cons_zero, List.getElem?_cons_succ, Mem.cell, Mem.row, cells_own, cells_ro, t1, hn2]
      exact hq M _ (by simpa using hM) hR0
  simp -implicitDefEqProofs (disch := first | assumption | omega | fail) [rc45, ro45, wkB, retV, stabOk, dC, ev, fillD, pickCells, putAt, bnd, slD, List.getElem?_cons_zero, List.getElem?_cons_succ, Mem.cell, Mem.row, cells_own, cells_ro]
  refine c_Split (c := 32) (by show line.length < _; omega) ?_
  have h1 := h.push (.own ((words 32 line).map fun l => .string ⟨⟨l⟩⟩) 9)
  rw [show (ByteArray.mk ⟨line⟩).data.toList = line from rfl]
  obtain ⟨m1, hm1⟩ : ∃ m1, m.push (.own ((words 32 line).map fun l => .string ⟨⟨l⟩⟩) 9) = m1 := ⟨_, rfl⟩
  obtain ⟨bw, hbw⟩ : ∃ bw, m.next = bw := ⟨_, rfl⟩
  rw [hm1, hbw] at h1
  rw [hm1, hbw]
  clear hm1
  unfold doesF at hq fin
  generalize hwd : words 32 line = ws at *
  by_cases h3 : ws.length = 3
  · obtain ⟨w, b, c, rfl⟩ : ∃ w b c, ws = [w, b, c] := by
      match ws, h3 with
      | [w, b, c], _ => exact ⟨w, b, c, rfl⟩
    have g1 := h1.get 0 rfl
    have i0 : sidx 1 (.slice (some ⟨bw, 0, none⟩) 3 1) (.int .i64 0) = some (.pointer (some ⟨bw, 0, none⟩)) := rfl
    have i1 : sidx 1 (.slice (some ⟨bw, 0, none⟩) 3 1) (.int .i64 1) = some (.pointer (some ⟨bw, 1, none⟩)) := rfl
    have i2 : sidx 1 (.slice (some ⟨bw, 0, none⟩) 3 1) (.int .i64 2) = some (.pointer (some ⟨bw, 2, none⟩)) := rfl
    have hcl : c.length ≤ 1000000 ∧ b.length ≤ 1000000 := by have := words3 hwd; omega
    have sums : ∀ fr M, Sep m V M ((some bw, .own [.string ⟨⟨w⟩⟩, .string ⟨⟨b⟩⟩, .string ⟨⟨c⟩⟩] 9) :: tgH it sp ol orr .nilIface s) → fr 0 = .pointer (some ⟨it, 0, none⟩) → fr 1 = .string ⟨⟨line⟩⟩ → fr 5 = .slice (some ⟨bw, 0, none⟩) 3 1 → loadR s w b c = none → AbW Tryz.prog w0 rc45_2 (bodyA [.mv (.tmp 4)] Q) fr M := by
      intro fr M hM t0 t1 t5 hlr
      have gM := hM.get 0 rfl
      simp only [hlr] at hq fin
      by_cases hw : w = sum3
      · have hw2 : (w == ([115, 117, 109] : List UInt8)) = true := by simp [hw, sum3]
        simp -implicitDefEqProofs (disch := first | assumption | omega | fail) [rc45_2, wkB, retV, stabOk, dC, ev, fillD, pickCells, putAt, bnd, slD, List.getElem?_cons_zero, List.getElem?_cons_succ, Mem.cell, Mem.row, cells_own, cells_ro, t0, t1, t5, i0, i1, i2, gM, hw2]
        refine c_hexQ hM.pt ht hE hcl.2 fun M1 z1 b1 o1 et1 ef1 => ?_
        have hM1 := hM.old o1
        have gM1 := hM1.get 0 rfl
        simp -implicitDefEqProofs (disch := first | assumption | omega | fail) [wkB, retV, stabOk, dC, ev, fillD, pickCells, putAt, bnd, slD, List.getElem?_cons_zero, List.getElem?_cons_succ, Mem.cell, Mem.row, cells_own, cells_ro, t0, t1, t5, i2, gM1]
        refine c_hexQ hM1.pt ht hE hcl.1 fun M2 z2 b2 o2 et2 ef2 => ?_
        have hM2 := hM1.old o2
        have gM2 := hM2.get 1 rfl
        simp only [tgC] at gM2
        simp -implicitDefEqProofs (disch := first | assumption | omega | fail) [wkB, retV, stabOk, dC, ev, fillD, pickCells, putAt, bnd, slD, List.getElem?_cons_zero, List.getElem?_cons_succ, Mem.cell, Mem.row, cells_own, cells_ro, t0, t1, t5, gM2]
        have hsn : (b1 = false ∨ b2 = false ∨ fitsF z1 z2 = false) → sumR s w b c = none := fun hh => by
          unfold sumR
          rw [if_pos hw]
          cases b1 with
          | false => rw [ef1 rfl]
          | true =>
            obtain ⟨n1, e1, rfl⟩ := et1 rfl
            rw [e1]
            cases b2 with
            | false => rw [ef2 rfl]
            | true =>
              obtain ⟨n2, e2, rfl⟩ := et2 rfl
              rw [e2]
              simp only
              rw [if_neg]
              rcases hh with hh | hh | hh
              · cases hh
              · cases hh
              · rw [hh]; simp
        refine c_sPrint (s := s.mem) hM2 2 rfl hml (fun hf M3 h3 => ?_) fun hf => ?_
        · cases b1 with
          | false =>
            simp -implicitDefEqProofs (disch := first | assumption | omega | fail) [wkB, retV, stabOk, dC, ev, fillD, pickCells, putAt, bnd, slD, List.getElem?_cons_zero, List.getElem?_cons_succ, Mem.cell, Mem.row, cells_own, cells_ro, t0, t1, t5]
            exact fin _ M3 h3.tl (by simp [t1]) (by rw [hsn (.inl rfl)])
          | true =>
            cases b2 with
            | false =>
              simp -implicitDefEqProofs (disch := first | assumption | omega | fail) [wkB, retV, stabOk, dC, ev, fillD, pickCells, putAt, bnd, slD, List.getElem?_cons_zero, List.getElem?_cons_succ, Mem.cell, Mem.row, cells_own, cells_ro, t0, t1, t5]
              exact fin _ M3 h3.tl (by simp [t1]) (by rw [hsn (.inr (.inl rfl))])
            | true =>
              obtain ⟨n1, e1, rfl⟩ := et1 rfl
              obtain ⟨n2, e2, rfl⟩ := et2 rfl
              have hsr : sumR s w b c = some ((n1 : Int), (n2 : Int), prN ((s.mem.drop n1).take n2)) := by
                unfold sumR
                rw [if_pos hw, e1, e2]
                simp only
                rw [if_pos hf]
              simp only [hsr] at hq
              simp only [Int.toNat_natCast]
              have hpl := prN_lt ((s.mem.drop n1).take n2)
              generalize prN ((s.mem.drop n1).take n2) = pr at *
              have hl1 := hexN_lt e1
              have hl2 := hexN_lt e2
              simp -implicitDefEqProofs (disch := first | assumption | omega | fail) [wkB, retV, stabOk, dC, ev, fillD, pickCells, putAt, bnd, slD, List.getElem?_cons_zero, List.getElem?_cons_succ, Mem.cell, Mem.row, cells_own, cells_ro, t0, t1, t5]
              refine SK_alS h3 fun br m4 h4 _ _ => ?_
              simp -implicitDefEqProofs (disch := first | assumption | omega | fail) [wkB, retV, stabOk, dC, ev, fillD, pickCells, putAt, bnd, slD, List.getElem?_cons_zero, List.getElem?_cons_succ, Mem.cell, Mem.row, cells_own, cells_ro]
              refine SK_stS h4 0 rfl (o := 0) (vs := repC ((n1 : Int), (n2 : Int), pr)) (cs' := repC ((n1 : Int), (n2 : Int), pr)) (by simp [wkB, retV, stabOk, dC, ev, fillD, pickCells, putAt, bnd, slD, List.getElem?_cons_zero, List.getElem?_cons_succ, Mem.cell, Mem.row, cells_own, cells_ro]) (by simp [wkB, retV, stabOk, dC, ev, fillD, pickCells, putAt, bnd, slD, List.getElem?_cons_zero, List.getElem?_cons_succ, Mem.cell, Mem.row, cells_own, cells_ro, repC]) (by simp) rfl rfl rfl fun m5 h5 _ => ?_
              have g50 := h5.get 0 rfl
              have g52 := h5.get 2 rfl
              simp only [tgC] at g52
              simp only [repC] at g50
              simp -implicitDefEqProofs (disch := first | assumption | omega | fail) [wkB, retV, stabOk, dC, ev, fillD, pickCells, putAt, bnd, slD, List.getElem?_cons_zero, List.getElem?_cons_succ, Mem.cell, Mem.row, cells_own, cells_ro, t0, g50, g52]
              refine SK_bslS h5 (cs := repC ((n1 : Int), (n2 : Int), pr)) (by simp [fillD, pickCells, wkB, retV, stabOk, dC, ev, fillD, pickCells, putAt, bnd, slD, List.getElem?_cons_zero, List.getElem?_cons_succ, Mem.cell, Mem.row, cells_own, cells_ro, repC, g50]) rfl fun bs m6 h6 _ _ => ?_
              have g60 := h6.get 1 rfl
              have g62 := h6.get 3 rfl
              simp only [tgC] at g62
              simp only [repC] at g60
              have hO6 := (h6.slO 0 (k := 1) (sz := 3) rfl rfl (fun e => by cases e)).read
              simp -implicitDefEqProofs (disch := first | assumption | omega | fail) [wkB, retV, stabOk, dC, ev, fillD, pickCells, putAt, bnd, slD, List.getElem?_cons_zero, List.getElem?_cons_succ, Mem.cell, Mem.row, cells_own, cells_ro, t0, g60, g62]
              refine SK_apS h6 6 (n := s.reps.length) (k := 1) (ys := repC ((n1 : Int), (n2 : Int), pr)) rfl (by simp [wkB, retV, stabOk, dC, ev, fillD, pickCells, putAt, bnd, slD, List.getElem?_cons_zero, List.getElem?_cons_succ, Mem.cell, Mem.row, cells_own, cells_ro]) (flat_len repC_len s.reps) hor (by simp [wkB, retV, stabOk, dC, ev, fillD, pickCells, putAt, bnd, slD, List.getElem?_cons_zero, List.getElem?_cons_succ, Mem.cell, Mem.row, cells_own, cells_ro]; exact hO6.elems) (by simp [wkB, retV, stabOk, dC, ev, fillD, pickCells, putAt, bnd, slD, List.getElem?_cons_zero, List.getElem?_cons_succ, Mem.cell, Mem.row, cells_own, cells_ro]) rfl (by omega) (by unfold maxLen; omega) rfl fun or7 m7 h7 hn7 _ => ?_
              simp -implicitDefEqProofs (disch := first | assumption | omega | fail) [wkB, retV, stabOk, dC, ev, fillD, pickCells, putAt, bnd, slD, List.getElem?_cons_zero, List.getElem?_cons_succ, Mem.cell, Mem.row, cells_own, cells_ro, t0]
              refine SK_stS h7 3 rfl (o := 7) (vs := [slV or7 (s.reps.length + 1) 3]) (cs' := tgC { s with reps := s.reps ++ [((n1 : Int), (n2 : Int), pr)] } sp (slV ol s.line.length 1) .nilIface (slV or7 (s.reps.length + 1) 3)) (by simp [wkB, retV, stabOk, dC, ev, fillD, pickCells, putAt, bnd, slD, List.getElem?_cons_zero, List.getElem?_cons_succ, Mem.cell, Mem.row, cells_own, cells_ro]) (by simp [wkB, retV, stabOk, dC, ev, fillD, pickCells, putAt, bnd, slD, List.getElem?_cons_zero, List.getElem?_cons_succ, Mem.cell, Mem.row, cells_own, cells_ro]) (by simp [tgC]) rfl (by simp [oneC_slV]) (by simp [tgC, putAt]) fun m8 h8 _ => ?_
              have g8 := h8.get 1 rfl
              simp only [repC] at g8
              simp -implicitDefEqProofs (disch := first | assumption | omega | fail) [wkB, retV, stabOk, dC, ev, fillD, pickCells, putAt, bnd, slD, List.getElem?_cons_zero, List.getElem?_cons_succ, Mem.cell, Mem.row, cells_own, cells_ro, g8]
              refine c_Line h8.pt ht (by omega) (by omega) hpl fun m9 o9 => ?_
              have h9 := h8.old o9
              have e10 : s.reps.flatMap repC ++ repC ((n1 : Int), (n2 : Int), pr) = (s.reps ++ [((n1 : Int), (n2 : Int), pr)]).flatMap repC := by simp
              rw [e10] at h9
              have hlen := catB (lineL n1 n2 pr) [61, 62, 32] (by
                have la := num16 (i := n1) (by omega)
                have ln := num16 (i := n2) (by omega)
                have lp := digs_64 (b := 16) (by omega) (show pr < 18446744073709551616 by omega)
                simp [lineL, sumW]; omega)
              have hlen : dBin .add (.string ⟨⟨lineL n1 n2 pr⟩⟩) (.string ⟨#[61, 62, 32]⟩) = some (.string ⟨⟨lineL n1 n2 pr ++ [61, 62, 32]⟩⟩) := hlen
              simp -implicitDefEqProofs (disch := first | assumption | omega | fail) [wkB, retV, stabOk, dC, ev, fillD, pickCells, putAt, bnd, slD, List.getElem?_cons_zero, List.getElem?_cons_succ, Mem.cell, Mem.row, cells_own, cells_ro, hlen]
              refine hq m9 (tgH it sp ol or7 .nilIface { s with reps := s.reps ++ [((n1 : Int), (n2 : Int), pr)] } ++ []) ?_ ⟨⟨sp, ol, or7, .nilIface, [], rfl, by rw [hno]; exact ⟨rfl, rfl⟩, hol, fun e => by have := hn7 e; omega⟩, hml, hll⟩
              have h11 := h9.sel [3, 4, 5, 6] (by decide)
              have e12 : (s.reps ++ [((n1 : Int), (n2 : Int), pr)]).length = s.reps.length + 1 := by simp
              simp only [tgH, reH, List.append_nil]
              rw [e12]
              exact h11
        · have hn := hsn (.inr (.inr hf))
          cases b1 <;> cases b2
          all_goals
            simp -implicitDefEqProofs (disch := first | assumption | omega | fail) [wkB, retV, stabOk, dC, ev, fillD, pickCells, putAt, bnd, slD, List.getElem?_cons_zero, List.getElem?_cons_succ, Mem.cell, Mem.row, cells_own, cells_ro, t0, t1, t5]
            exact fin _ M2 hM2.tl (by simp [t1]) (by rw [hn])
      · have hw2 : (w == ([115, 117, 109] : List UInt8)) = false := by simpa [sum3] using hw
        simp -implicitDefEqProofs (disch := first | assumption | omega | fail) [rc45_2, wkB, retV, stabOk, dC, ev, fillD, pickCells, putAt, bnd, slD, List.getElem?_cons_zero, List.getElem?_cons_succ, Mem.cell, Mem.row, cells_own, cells_ro, t0, t1, t5, i0, i1, i2, gM, hw2]
        exact fin _ M hM.tl (by simp [t1]) (by unfold sumR; rw [if_neg hw])
    by_cases hw : w = load4
    · have hw2 : (w == ([108, 111, 97, 100] : List UInt8)) = true := by simp [hw, load4]
      simp -implicitDefEqProofs (disch := first | assumption | omega | fail) [wkB, retV, stabOk, dC, ev, fillD, pickCells, putAt, bnd, slD, List.getElem?_cons_zero, List.getElem?_cons_succ, Mem.cell, Mem.row, cells_own, cells_ro, i0, i1, i2, g1, hw2]
      refine c_hex h1.pt ht hE hcl.1 (fun M n o hn => ?_) fun M z o hn => ?_
      · have h2 := h1.old o
        have g2 := h2.get 0 rfl
        simp -implicitDefEqProofs (disch := first | assumption | omega | fail) [wkB, retV, stabOk, dC, ev, fillD, pickCells, putAt, bnd, slD, List.getElem?_cons_zero, List.getElem?_cons_succ, Mem.cell, Mem.row, cells_own, cells_ro, i1, g2]
        have h2' := h2.rot1
        refine c_begin h2'.fr (fun M2 k tv HT hk hM hT => ?_) fun M2 hk hM => ?_
        · have hlr : loadR s w b c = some (begF s k n) := by unfold loadR; rw [if_pos hw, hn, hk]
          simp only [hlr] at hq
          simp -implicitDefEqProofs (disch := first | assumption | omega | fail) [wkB, retV, stabOk, dC, ev, fillD, pickCells, putAt, bnd, slD, List.getElem?_cons_zero, List.getElem?_cons_succ, Mem.cell, Mem.row, cells_own, cells_ro]
          exact hq M2 _ ((h2'.un hM).sub (List.sublist_append_left _ _)) ⟨⟨sp, ol, orr, tv, HT, rfl, hT, hol, hor⟩, hml, hll⟩
        · have hM := (h2'.un hM).perm List.perm_append_comm
          simp -implicitDefEqProofs (disch := first | assumption | omega | fail) [wkB, retV, stabOk, dC, ev, fillD, pickCells, putAt, bnd, slD, List.getElem?_cons_zero, List.getElem?_cons_succ, Mem.cell, Mem.row, cells_own, cells_ro]
          exact sums _ M2 hM (by simp [frA_at]) (by simp [frA_at]) (by simp) (by unfold loadR; rw [if_pos hw, hn, hk])
      · have h2 := h1.old o
        simp -implicitDefEqProofs (disch := first | assumption | omega | fail) [wkB, retV, stabOk, dC, ev, fillD, pickCells, putAt, bnd, slD, List.getElem?_cons_zero, List.getElem?_cons_succ, Mem.cell, Mem.row, cells_own, cells_ro]
        exact sums _ M h2 (by simp [frA_at]) (by simp [frA_at]) (by simp) (by unfold loadR; rw [if_pos hw, hn])
    · have hw2 : (w == ([108, 111, 97, 100] : List UInt8)) = false := by simpa [load4] using hw
      simp -implicitDefEqProofs (disch := first | assumption | omega | fail) [wkB, retV, stabOk, dC, ev, fillD, pickCells, putAt, bnd, slD, List.getElem?_cons_zero, List.getElem?_cons_succ, Mem.cell, Mem.row, cells_own, cells_ro, i0, i1, i2, g1, hw2]
      exact sums _ m1 h1 (by simp [frA_at]) (by simp [frA_at]) (by simp) (by unfold loadR; rw [if_neg hw])
  · have h3' : ((ws.length : Int) == 3) = false := beq_eq_false_iff_ne.2 (by omega)
    simp -implicitDefEqProofs (disch := first | assumption | omega | fail) [wkB, retV, stabOk, dC, ev, fillD, pickCells, putAt, bnd, slD, List.getElem?_cons_zero, List.getElem?_cons_succ, Mem.cell, Mem.row, cells_own, cells_ro, h3', rc45_2]
    refine fin _ m1 h1.tl (by simp [frA_at]) ?_
    split
    · simp at h3
    · rfl
end Go.Proofs.YtiapjjgmmiifmaaGreatDoor.Ab

set_option linter.unusedVariables false
set_option linter.unusedSimpArgs false
namespace Go.Proofs.YtiapjjgmmiifmaaGreatDoor.Ab
open Go Go.RowKit
set_option maxHeartbeats 4000000
set_option maxRecDepth 100000
def pushL (l : List UInt8) (c : UInt8) : List UInt8 := if l.length < 80 then l ++ [c] else l
def putCF (s : TgS) (c : UInt8) : TgS × List UInt8 :=
  if s.asleep = true then ({ s with asleep := false }, proL)
  else if c = 13 then doesF { s with line := [] } s.line
  else ({ s with line := pushL s.line c }, [])
/-- Told: what is told of a board by a byte, or by bytes. -/
def TgQ (V : Nat → Prop) (m : Mem) (it : Nat) (r : TgS × List UInt8) (Q : Value → Mem → Prop) : Prop :=
  ∀ oo H' M, Sep m V M (byH oo r.2 :: H') → TgR H' it r.1 → (oo = none → r.2.length = 0) → Q (slV oo r.2.length 1) M
theorem line_len {a n : Nat} {p : Nat} (ha : a < 4294967296) (hn : n < 4294967296) (hp : p < 4294967296) : (lineL a n p).length ≤ 100 := by
  have la := num16 (i := a) (by omega)
  have ln := num16 (i := n) (by omega)
  have lp := digs_64 (b := 16) (by omega) (show p < 18446744073709551616 by omega)
  simp [lineL, sumW]; omega
theorem sumR_lt {s : TgS} {w b c : List UInt8} {r : Int × Int × Nat} (h : sumR s w b c = some r) : ∃ x y : Nat, r = ((x : Int), (y : Int), prN ((s.mem.drop x).take y)) ∧ x < 4294967296 ∧ y < 4294967296 ∧ fitsF x y = true ∧ hexN b = some x ∧ hexN c = some y ∧ w = sum3 := by
  unfold sumR at h
  split at h
  · rename_i hw
    split at h
    · rename_i x y hx hy
      split at h
      · rename_i hf
        cases h
        exact ⟨x, y, rfl, hexN_lt hx, hexN_lt hy, hf, hx, hy, hw⟩
      · cases h
    · cases h
  · cases h
theorem doesF_len (s : TgS) (line : List UInt8) : (doesF s line).2.length ≤ 200 := by
  unfold doesF
  have he : (elseF line).length ≤ 6 := by unfold elseF; split <;> simp [proL, qryL]
  split
  · split
    · simp
    · split
      · rename_i r hr
        obtain ⟨x, y, rfl, hx, hy, -⟩ := sumR_lt hr
        have := line_len hx hy (prN_lt ((s.mem.drop x).take y))
        simp only [List.length_append, List.length_cons, List.length_nil]
        omega
      · simp only; omega
  · simp only; omega
theorem c_tput {w0 : World} {V : Nat → Prop} {m : Mem} {H : HL} {it : Nat} {s : TgS} {c : UInt8} {Q : Value → Mem → Prop} (ht : Ten w0) (hE : ErrV w0) (h : Sep m V m H) (hR : TgR H it s) (hno : s.tak = .no) (hrl : s.reps.length ≤ 1000000000)
    (hq : TgQ V m it (putCF s c) Q) : AbC Tryz.prog w0 30 [.pointer (some ⟨it, 0, none⟩), .int .u8 (c.toNat : Int)] m Q := by
  refine AbC_fn ok30 (by simp) ?_
  obtain ⟨⟨sp, ol, orr, tv, HT, rfl, hT, hol, hor⟩, hml, hll⟩ := hR
  rw [hno] at hT
  obtain ⟨rfl, rfl⟩ := hT
  have g0 := h.get 0 rfl
  simp only [tgC] at g0
  unfold putCF at hq
  cases has : s.asleep with
  | true =>
    rw [if_pos has] at hq
    rw [has] at g0
    simp -implicitDefEqProofs (disch := first | assumption | omega | fail) [rc30, ro30, wkB, retV, stabOk, dC, ev, fillD, pickCells, putAt, bnd, slD, List.getElem?_cons_zero, List.getElem?_cons_succ, Mem.cell, Mem.row, cells_own, cells_ro, g0]
    refine SK_stS h 0 rfl (o := 3) (vs := [.bool false]) (cs' := tgC { s with asleep := false } sp (slV ol s.line.length 1) .nilIface (slV orr s.reps.length 3)) (by simp [wkB, retV, stabOk, dC, ev, fillD, pickCells, putAt, bnd, slD, List.getElem?_cons_zero, List.getElem?_cons_succ, Mem.cell, Mem.row, cells_own, cells_ro]) (by simp [wkB, retV, stabOk, dC, ev, fillD, pickCells, putAt, bnd, slD, List.getElem?_cons_zero, List.getElem?_cons_succ, Mem.cell, Mem.row, cells_own, cells_ro]) (by simp [tgC]) rfl rfl (by simp [tgC, putAt]) fun m1 h1 _ => ?_
    simp -implicitDefEqProofs (disch := first | assumption | omega | fail) [wkB, retV, stabOk, dC, ev, fillD, pickCells, putAt, bnd, slD, List.getElem?_cons_zero, List.getElem?_cons_succ, Mem.cell, Mem.row, cells_own, cells_ro]
    refine SK_bslS h1 (cs := proL.map byteV) (by simp [fillD, pickCells, wkB, retV, stabOk, dC, ev, fillD, pickCells, putAt, bnd, slD, List.getElem?_cons_zero, List.getElem?_cons_succ, Mem.cell, Mem.row, cells_own, cells_ro, byteV, proL]) rfl fun b m2 h2 _ _ => ?_
    have g2 := h2.get 0 rfl
    simp -implicitDefEqProofs (disch := first | assumption | omega | fail) [wkB, retV, stabOk, dC, ev, fillD, pickCells, putAt, bnd, slD, List.getElem?_cons_zero, List.getElem?_cons_succ, Mem.cell, Mem.row, cells_own, cells_ro]
    refine SK_cvm (i := b) (o := 0) (n := 5) (z := 1) (cs := proL.map byteV) (by simp [wkB, retV, stabOk, dC, ev, fillD, pickCells, putAt, bnd, slD, List.getElem?_cons_zero, List.getElem?_cons_succ, Mem.cell, Mem.row, cells_own, cells_ro]) g2 ?_
    simp -implicitDefEqProofs (disch := first | assumption | omega | fail) [wkB, retV, stabOk, dC, ev, fillD, pickCells, putAt, bnd, slD, List.getElem?_cons_zero, List.getElem?_cons_succ, Mem.cell, Mem.row, cells_own, cells_ro]
    exact hq (some b) _ m2 h2 ⟨⟨sp, ol, orr, .nilIface, [], rfl, by rw [hno]; exact ⟨rfl, rfl⟩, hol, hor⟩, hml, hll⟩ (fun e => by cases e)
  | false =>
    rw [if_neg (by rw [has]; simp)] at hq
    rw [has] at g0
    by_cases hc : c = 13
    · subst hc
      rw [if_pos rfl] at hq
      have hO := (h.slO 2 (k := s.line.length) (sz := 1) rfl (by simp) hol).read
      have hbs : bstr m (slV ol s.line.length 1) = some (.string ⟨⟨s.line⟩⟩) := SlR.txt hO
      have e13 : (((13 : UInt8).toNat : Int) == 13) = true := rfl
      simp -implicitDefEqProofs (disch := first | assumption | omega | fail) [rc30, ro30, wkB, retV, stabOk, dC, ev, fillD, pickCells, putAt, bnd, slD, List.getElem?_cons_zero, List.getElem?_cons_succ, Mem.cell, Mem.row, cells_own, cells_ro, g0, rc30_2, e13, hbs]
      refine SK_stS h 0 rfl (o := 4) (vs := [.slice none 0 0]) (cs' := tgC { s with line := [] } sp (.slice none 0 0) .nilIface (slV orr s.reps.length 3)) (by simp [wkB, retV, stabOk, dC, ev, fillD, pickCells, putAt, bnd, slD, List.getElem?_cons_zero, List.getElem?_cons_succ, Mem.cell, Mem.row, cells_own, cells_ro]) (by simp [wkB, retV, stabOk, dC, ev, fillD, pickCells, putAt, bnd, slD, List.getElem?_cons_zero, List.getElem?_cons_succ, Mem.cell, Mem.row, cells_own, cells_ro]) (by simp [tgC]) rfl rfl (by simp [tgC, putAt]) fun m1 h1 _ => ?_
      have h1 : Sep m V m1 (tgH it sp none orr .nilIface { s with line := [] } ++ []) := h1.nul 2 (.own [] 5)
      simp -implicitDefEqProofs (disch := first | assumption | omega | fail) [wkB, retV, stabOk, dC, ev, fillD, pickCells, putAt, bnd, slD, List.getElem?_cons_zero, List.getElem?_cons_succ, Mem.cell, Mem.row, cells_own, cells_ro]
      have hdl := doesF_len { s with line := [] } s.line
      refine c_tdoes ht hE h1.self ⟨⟨sp, none, orr, .nilIface, [], rfl, by simp only [hno]; exact ⟨rfl, rfl⟩, fun _ => rfl, hor⟩, hml, by simp⟩ hno hll hrl fun M H2 h2 hR2 => ?_
      generalize doesF { s with line := [] } s.line = r at *
      have h3 := h1.tr h2
      simp -implicitDefEqProofs (disch := first | assumption | omega | fail) [wkB, retV, stabOk, dC, ev, fillD, pickCells, putAt, bnd, slD, List.getElem?_cons_zero, List.getElem?_cons_succ, Mem.cell, Mem.row, cells_own, cells_ro]
      refine SK_s2bS h3 (s := r.2) (by simp [wkB, retV, stabOk, dC, ev, fillD, pickCells, putAt, bnd, slD, List.getElem?_cons_zero, List.getElem?_cons_succ, Mem.cell, Mem.row, cells_own, cells_ro]) (by omega) fun b m4 h4 _ _ => ?_
      simp -implicitDefEqProofs (disch := first | assumption | omega | fail) [wkB, retV, stabOk, dC, ev, fillD, pickCells, putAt, bnd, slD, List.getElem?_cons_zero, List.getElem?_cons_succ, Mem.cell, Mem.row, cells_own, cells_ro]
      exact hq (some b) _ m4 h4 hR2 (fun e => by cases e)
    · rw [if_neg hc] at hq
      have e13 : ((c.toNat : Int) == 13) = false := by have := b8 c 13 (by omega); rw [show ((13 : Int)) = ((13 : Nat) : Int) from rfl, this]; simp; exact hc
      have hsl := (h.slO 2 (k := s.line.length) (sz := 1) rfl (by simp) hol).slen
      unfold pushL at hq
      by_cases hlt : s.line.length < 80
      · have hlt' : (s.line.length : Int) < 80 := by omega
        rw [if_pos hlt] at hq
        simp -implicitDefEqProofs (disch := first | assumption | omega | fail) [rc30, ro30, wkB, retV, stabOk, dC, ev, fillD, pickCells, putAt, bnd, slD, List.getElem?_cons_zero, List.getElem?_cons_succ, Mem.cell, Mem.row, cells_own, cells_ro, g0, rc30_2, e13, rc30_1, hsl, hlt']
        refine SK_bslS h (cs := ([c] : List UInt8).map byteV) (by simp [fillD, pickCells, wkB, retV, stabOk, dC, ev, fillD, pickCells, putAt, bnd, slD, List.getElem?_cons_zero, List.getElem?_cons_succ, Mem.cell, Mem.row, cells_own, cells_ro, byteV]) rfl fun b m2 h2 _ _ => ?_
        have hO2 := (h2.slO 0 (k := 1) (sz := 1) rfl rfl (fun e => by cases e)).read
        simp -implicitDefEqProofs (disch := first | assumption | omega | fail) [wkB, retV, stabOk, dC, ev, fillD, pickCells, putAt, bnd, slD, List.getElem?_cons_zero, List.getElem?_cons_succ, Mem.cell, Mem.row, cells_own, cells_ro]
        refine SK_apS h2 3 (n := s.line.length) (k := 1) (ys := ([c] : List UInt8).map byteV) rfl (by simp [wkB, retV, stabOk, dC, ev, fillD, pickCells, putAt, bnd, slD, List.getElem?_cons_zero, List.getElem?_cons_succ, Mem.cell, Mem.row, cells_own, cells_ro]) (by simp) hol (by simp [wkB, retV, stabOk, dC, ev, fillD, pickCells, putAt, bnd, slD, List.getElem?_cons_zero, List.getElem?_cons_succ, Mem.cell, Mem.row, cells_own, cells_ro]; exact hO2.elems) (by simp [wkB, retV, stabOk, dC, ev, fillD, pickCells, putAt, bnd, slD, List.getElem?_cons_zero, List.getElem?_cons_succ, Mem.cell, Mem.row, cells_own, cells_ro]) (byteV_oneC _) (by omega) (by unfold maxLen; omega) rfl fun ol3 m3 h3 hn3 _ => ?_
        simp -implicitDefEqProofs (disch := first | assumption | omega | fail) [wkB, retV, stabOk, dC, ev, fillD, pickCells, putAt, bnd, slD, List.getElem?_cons_zero, List.getElem?_cons_succ, Mem.cell, Mem.row, cells_own, cells_ro]
        refine SK_stS h3 1 rfl (o := 4) (vs := [slV ol3 (s.line.length + 1) 1]) (cs' := tgC { s with line := s.line ++ [c] } sp (slV ol3 (s.line.length + 1) 1) .nilIface (slV orr s.reps.length 3)) (by simp [wkB, retV, stabOk, dC, ev, fillD, pickCells, putAt, bnd, slD, List.getElem?_cons_zero, List.getElem?_cons_succ, Mem.cell, Mem.row, cells_own, cells_ro]) (by simp [wkB, retV, stabOk, dC, ev, fillD, pickCells, putAt, bnd, slD, List.getElem?_cons_zero, List.getElem?_cons_succ, Mem.cell, Mem.row, cells_own, cells_ro]) (by simp [tgC]) rfl (by simp [oneC_slV]) (by simp [tgC, putAt]) fun m4 h4 _ => ?_
        simp -implicitDefEqProofs (disch := first | assumption | omega | fail) [wkB, retV, stabOk, dC, ev, fillD, pickCells, putAt, bnd, slD, List.getElem?_cons_zero, List.getElem?_cons_succ, Mem.cell, Mem.row, cells_own, cells_ro, rc30_0]
        have e6 : s.line.map byteV ++ ([c] : List UInt8).map byteV = (s.line ++ [c]).map byteV := by simp
        rw [e6] at h4
        have h5 := (h4.tl).non (.own [] 5)
        refine hq none (tgH it sp ol3 orr .nilIface { s with line := s.line ++ [c] } ++ []) m4 ?_ ⟨⟨sp, ol3, orr, .nilIface, [], rfl, by simp only [hno]; exact ⟨rfl, rfl⟩, fun e => by have := hn3 e; omega, hor⟩, hml, by simp; omega⟩ (fun _ => rfl)
        have e7 : (s.line ++ [c]).length = s.line.length + 1 := by simp
        simp only [tgH, List.append_nil]
        rw [e7]
        exact h5
      · have hlt' : ¬ (s.line.length : Int) < 80 := by omega
        rw [if_neg hlt] at hq
        simp -implicitDefEqProofs (disch := first | assumption | omega | fail) [rc30, ro30, wkB, retV, stabOk, dC, ev, fillD, pickCells, putAt, bnd, slD, List.getElem?_cons_zero, List.getElem?_cons_succ, Mem.cell, Mem.row, cells_own, cells_ro, g0, rc30_2, e13, rc30_1, hsl, hlt', rc30_0]
        exact hq none _ m (h.non _) ⟨⟨sp, ol, orr, .nilIface, [], rfl, by rw [hno]; exact ⟨rfl, rfl⟩, hol, hor⟩, hml, hll⟩ (fun _ => rfl)
end Go.Proofs.YtiapjjgmmiifmaaGreatDoor.Ab

set_option linter.unusedVariables false
set_option linter.unusedSimpArgs false
namespace Go.Proofs.YtiapjjgmmiifmaaGreatDoor.Ab
open Go Go.RowKit
set_option maxHeartbeats 4000000
set_option maxRecDepth 100000
def ldF (s : TgS) (o : List UInt8) : TgS × List UInt8 :=
  if s.tak.over = false then (s, o)
  else if s.tak.err = 0 ∧ fitsF s.addr s.tak.data.length = true then ({ s with tak := .no, mem := wrF s.mem s.addr.toNat s.tak.data }, o ++ proL)
  else ({ s with tak := .no }, o ++ 33 :: proL)
theorem elems_str {m : Mem} {l : List UInt8} : elemsV m 1 (.string ⟨⟨l⟩⟩) = some (l.map byteV) := rfl
theorem c_tloaded {w0 : World} {V : Nat → Prop} {m0 m : Mem} {H : HL} {it : Nat} {s : TgS} {oo : Option Nat} {o : List UInt8} {Q : Value → Mem → Prop} (h : Sep m0 V m (byH oo o :: H)) (hoo : oo = none → o.length = 0) (hR : TgR H it s) (hne : s.tak ≠ .no)
    (hbig : s.tak.sz ≤ 140737488355328) (hol9 : o.length ≤ 1000000000) (hq : TgQ V m0 it (ldF s o) Q) : AbC Tryz.prog w0 29 [.pointer (some ⟨it, 0, none⟩), slV oo o.length 1] m Q := by
  refine AbC_fn ok29 (by simp) ?_
  have hR0 := hR
  obtain ⟨⟨sp, ol, orr, tv, HT, rfl, hT, hol, hor⟩, hml, hll⟩ := hR
  have g0 := h.get 1 rfl
  simp only [tgC] at g0
  unfold ldF at hq
  have cat1 : dBin .add (.string ⟨#[13, 10]⟩) (.string ⟨#[61, 62, 32]⟩) = some (.string ⟨⟨proL⟩⟩) := catB [13, 10] [61, 62, 32] (by simp)
  have cat2 : dBin .add (.string ⟨#[33, 13, 10]⟩) (.string ⟨#[61, 62, 32]⟩) = some (.string ⟨⟨33 :: proL⟩⟩) := catB [33, 13, 10] [61, 62, 32] (by simp)
  /- the end: the taker is let go, and it is told -/
  have fin : ∀ (fr : Fr) (M : Mem) (mem' : List UInt8) (B : HL) (say tl : List UInt8), Sep m0 V M ((byH oo o :: tgH it sp ol orr tv { s with mem := mem' }) ++ B) → mem'.length = 16384 → fr 0 = .pointer (some ⟨it, 0, none⟩) → fr 1 = slV oo o.length 1 → fr 7 = .string ⟨⟨say⟩⟩ → dBin .add (.string ⟨⟨say⟩⟩) (.string ⟨#[61, 62, 32]⟩) = some (.string ⟨⟨tl⟩⟩) → tl.length ≤ 6 →
      TgQ V m0 it ({ s with tak := .no, mem := mem' }, o ++ tl) Q → AbW Tryz.prog w0 rc29_0 (bodyA [.mv (.tmp 4)] Q) fr M := by
    intro fr M mem' B say tl hM hm' t0 t1 t7 hcat htl hq
    have gM := hM.get 1 rfl
    simp only [tgC] at gM
    simp -implicitDefEqProofs (disch := first | assumption | omega | fail) [rc29_0, wkB, retV, stabOk, dC, ev, fillD, pickCells, putAt, bnd, slD, List.getElem?_cons_zero, List.getElem?_cons_succ, Mem.cell, Mem.row, cells_own, cells_ro, t0, t1, t7, gM]
    refine SK_stS hM 1 rfl (o := 5) (vs := [.nilIface]) (cs' := tgC { s with tak := .no, mem := mem' } sp (slV ol s.line.length 1) .nilIface (slV orr s.reps.length 3)) (by simp [wkB, retV, stabOk, dC, ev, fillD, pickCells, putAt, bnd, slD, List.getElem?_cons_zero, List.getElem?_cons_succ, Mem.cell, Mem.row, cells_own, cells_ro]) (by simp [wkB, retV, stabOk, dC, ev, fillD, pickCells, putAt, bnd, slD, List.getElem?_cons_zero, List.getElem?_cons_succ, Mem.cell, Mem.row, cells_own, cells_ro]) (by simp [tgC]) rfl rfl (by simp [tgC, putAt]) fun m1 h1 _ => ?_
    simp -implicitDefEqProofs (disch := first | assumption | omega | fail) [wkB, retV, stabOk, dC, ev, fillD, pickCells, putAt, bnd, slD, List.getElem?_cons_zero, List.getElem?_cons_succ, Mem.cell, Mem.row, cells_own, cells_ro, t0, t1, t7, hcat]
    refine SK_apS h1 0 (n := o.length) (k := tl.length) (ys := tl.map byteV) rfl (by simp [wkB, retV, stabOk, dC, ev, fillD, pickCells, putAt, bnd, slD, List.getElem?_cons_zero, List.getElem?_cons_succ, Mem.cell, Mem.row, cells_own, cells_ro, t1]) (by simp) hoo (by simp [wkB, retV, stabOk, dC, ev, fillD, pickCells, putAt, bnd, slD, List.getElem?_cons_zero, List.getElem?_cons_succ, Mem.cell, Mem.row, cells_own, cells_ro, elems_str]) (by simp [wkB, retV, stabOk, dC, ev, fillD, pickCells, putAt, bnd, slD, List.getElem?_cons_zero, List.getElem?_cons_succ, Mem.cell, Mem.row, cells_own, cells_ro]; rfl) (byteV_oneC _) (by omega) (by unfold maxLen; omega) (by simp) fun oo2 m2 h2 hn2 _ => ?_
    simp -implicitDefEqProofs (disch := first | assumption | omega | fail) [wkB, retV, stabOk, dC, ev, fillD, pickCells, putAt, bnd, slD, List.getElem?_cons_zero, List.getElem?_cons_succ, Mem.cell, Mem.row, cells_own, cells_ro]
    have e6 : o.map byteV ++ tl.map byteV = (o ++ tl).map byteV := by simp
    rw [e6] at h2
    have e7 : (o ++ tl).length = o.length + tl.length := by simp
    have := hq oo2 (tgH it sp ol orr .nilIface { s with tak := .no, mem := mem' } ++ []) m2 (by
      rw [List.append_nil]
      exact h2.sub (List.sublist_append_left (byH oo2 (o ++ tl) :: tgH it sp ol orr .nilIface { s with tak := .no, mem := mem' }) B)) ⟨⟨sp, ol, orr, .nilIface, [], rfl, ⟨rfl, rfl⟩, hol, hor⟩, hm', hll⟩ (fun e => by rw [e7]; exact hn2 e)
    rw [e7] at this
    exact this
  simp -implicitDefEqProofs (disch := first | assumption | omega | fail) [rc29, ro29, wkB, retV, stabOk, dC, ev, fillD, pickCells, putAt, bnd, slD, List.getElem?_cons_zero, List.getElem?_cons_succ, Mem.cell, Mem.row, cells_own, cells_ro, g0]
  refine call_takDone h hT (fun p hp => List.mem_cons_of_mem _ (List.mem_append_right _ hp)) hne (by simp [wkB, retV, stabOk, dC, ev, fillD, pickCells, putAt, bnd, slD, List.getElem?_cons_zero, List.getElem?_cons_succ, Mem.cell, Mem.row, cells_own, cells_ro]) ?_
  cases hov : s.tak.over with
  | false =>
    rw [if_pos hov] at hq
    simp -implicitDefEqProofs (disch := first | assumption | omega | fail) [wkB, retV, stabOk, dC, ev, fillD, pickCells, putAt, bnd, slD, List.getElem?_cons_zero, List.getElem?_cons_succ, Mem.cell, Mem.row, cells_own, cells_ro]
    exact hq oo _ m h hR0 hoo
  | true =>
    rw [if_neg (by rw [hov]; simp)] at hq
    have h0 : Sep m0 V m ((byH oo o :: tgH it sp ol orr tv s) ++ HT) := h
    cases her : s.tak.err with
    | succ k =>
      rw [if_neg (fun hh => by rw [her] at hh; cases hh.1)] at hq
      simp -implicitDefEqProofs (disch := first | assumption | omega | fail) [wkB, retV, stabOk, dC, ev, fillD, pickCells, putAt, bnd, slD, List.getElem?_cons_zero, List.getElem?_cons_succ, Mem.cell, Mem.row, cells_own, cells_ro, errV, rc29_1]
      exact fin _ m s.mem HT [33, 13, 10] (33 :: proL) h0 hml (by simp [frA_at]) (by simp [frA_at]) (by simp) cat2 (by simp [proL]) hq
    | zero =>
      simp -implicitDefEqProofs (disch := first | assumption | omega | fail) [wkB, retV, stabOk, dC, ev, fillD, pickCells, putAt, bnd, slD, List.getElem?_cons_zero, List.getElem?_cons_succ, Mem.cell, Mem.row, cells_own, cells_ro, errV, rc29_1, g0]
      have h1 := h0.perm List.perm_append_comm
      refine call_takData h1.fr hT hne hbig (by simp [wkB, retV, stabOk, dC, ev, fillD, pickCells, putAt, bnd, slD, List.getElem?_cons_zero, List.getElem?_cons_succ, Mem.cell, Mem.row, cells_own, cells_ro]) fun od m2 hM hod => ?_
      have h2 := (h1.un hM).perm List.perm_append_comm
      have g2 := h2.get 1 rfl
      simp only [tgC] at g2
      have hrd : RdV (fun i => i < m2.next) m2 1 (slV od s.tak.data.length 1) (s.tak.data.map byteV) s.tak.data.length := h2.rd 5 rfl (by simp) hod (fun i hi => by subst hi; exact h2.lt 5 rfl)
      simp -implicitDefEqProofs (disch := first | assumption | omega | fail) [wkB, retV, stabOk, dC, ev, fillD, pickCells, putAt, bnd, slD, List.getElem?_cons_zero, List.getElem?_cons_succ, Mem.cell, Mem.row, cells_own, cells_ro, g2]
      refine c_sWrite h2 2 rfl hml hrd (fun hf m3 h3 => ?_) fun hf => ?_
      · rw [if_pos ⟨her, hf⟩] at hq
        have hf2 := hf
        simp only [fitsF, decide_eq_true_eq] at hf2
        simp -implicitDefEqProofs (disch := first | assumption | omega | fail) [wkB, retV, stabOk, dC, ev, fillD, pickCells, putAt, bnd, slD, List.getElem?_cons_zero, List.getElem?_cons_succ, Mem.cell, Mem.row, cells_own, cells_ro]
        exact fin _ m3 (wrF s.mem s.addr.toNat s.tak.data) (byH od s.tak.data :: HT) [13, 10] proL h3 (by rw [wrF_len (by rw [hml]; omega)]; exact hml) (by simp [frA_at]) (by simp [frA_at]) (by simp) cat1 (by simp [proL]) hq
      · rw [if_neg (fun hh => by rw [hf] at hh; cases hh.2)] at hq
        simp -implicitDefEqProofs (disch := first | assumption | omega | fail) [wkB, retV, stabOk, dC, ev, fillD, pickCells, putAt, bnd, slD, List.getElem?_cons_zero, List.getElem?_cons_succ, Mem.cell, Mem.row, cells_own, cells_ro]
        exact fin _ m2 s.mem (byH od s.tak.data :: HT) [33, 13, 10] (33 :: proL) h2 hml (by simp [frA_at]) (by simp [frA_at]) (by simp) cat2 (by simp [proL]) hq
end Go.Proofs.YtiapjjgmmiifmaaGreatDoor.Ab

set_option linter.unusedVariables false
set_option linter.unusedSimpArgs false
namespace Go.Proofs.YtiapjjgmmiifmaaGreatDoor.Ab
open Go Go.RowKit
set_option maxHeartbeats 4000000
set_option maxRecDepth 100000
def Tak.isNo : Tak → Bool
  | .no => true
  | _ => false
theorem Tak.isNo_iff {k : Tak} : k.isNo = true ↔ k = .no := by cases k <;> simp [Tak.isNo]
noncomputable def tPutL : TgS → List UInt8 → List UInt8 → TgS × List UInt8
  | s, out, [] => (s, out)
  | s, out, c :: r => if s.tak.isNo = true then tPutL (putCF s c).1 (out ++ (putCF s c).2) r
    else ((ldF { s with tak := (s.tak.put (c :: r)).1 } (s.tak.put (c :: r)).2).1, out ++ (ldF { s with tak := (s.tak.put (c :: r)).1 } (s.tak.put (c :: r)).2).2)
noncomputable def tPutF (s : TgS) (b : List UInt8) : TgS × List UInt8 :=
  if s.tak.isNo = true then tPutL s [] b else ldF { s with tak := (s.tak.put b).1 } (s.tak.put b).2
theorem begF_sz (s : TgS) (k : Nat) (a : Int) : (begF s k a).tak.sz = 0 ∧ (begF s k a).reps = s.reps := by
  refine ⟨?_, rfl⟩
  unfold begF
  simp only
  split <;> rfl
theorem doesF_keep (s : TgS) (line : List UInt8) (hno : s.tak = .no) : (doesF s line).1.tak.sz = 0 ∧ (doesF s line).1.reps.length ≤ s.reps.length + 1 := by
  have h0 : s.tak.sz = 0 ∧ s.reps.length ≤ s.reps.length + 1 := ⟨by rw [hno]; rfl, by omega⟩
  unfold doesF
  split
  · rename_i w b c _
    split
    · rename_i s' hs
      unfold loadR at hs
      split at hs
      · split at hs
        · cases hs
          have := begF_sz s
          exact ⟨(this _ _).1, by rw [(this _ _).2]; omega⟩
        · cases hs
      · cases hs
    · split
      · exact ⟨h0.1, by simp⟩
      · exact h0
  · exact h0
theorem putCF_keep (s : TgS) (c : UInt8) (hno : s.tak = .no) : (putCF s c).1.tak.sz = 0 ∧ (putCF s c).1.reps.length ≤ s.reps.length + 1 ∧ (putCF s c).2.length ≤ 200 := by
  unfold putCF
  split
  · exact ⟨by simp [hno, Tak.sz], by simp, by simp [proL]⟩
  · split
    · have := doesF_keep { s with line := [] } s.line hno
      exact ⟨this.1, this.2, doesF_len _ _⟩
    · exact ⟨by simp [hno, Tak.sz], by simp, by simp⟩
theorem takPut_no {k : Tak} {b : List UInt8} (h : k ≠ .no) : (k.put b).1 ≠ .no := by
  cases k
  · exact absurd rfl h
  · simp [Tak.put]
  · simp [Tak.put]
theorem rOut (s : Rc) (b : List UInt8) : (rPutF s b).2.length ≤ 2 := by
  have hf : ∀ s, (finF s).2.length ≤ 2 := fun s => by unfold finF; split <;> simp
  have ht : ∀ s n d, (takeF s n d).2.length ≤ 2 := fun s n d => by
    unfold takeF
    split
    · exact hf _
    · split
      · simp
      · exact hf _
  unfold rPutF
  split
  · simp
  · unfold rPut1
    split
    · simp
    · split
      · simp
      · split
        · simp
        · unfold scaF
          split
          · simp
          · split
            · simp
            · exact ht _ _ _
theorem takPut_out (k : Tak) (b : List UInt8) : (k.put b).2.length ≤ 2 := by
  cases k with
  | no => simp [Tak.put]
  | plain r => exact rOut r b
  | files r =>
    simp only [Tak.put]
    unfold bPutF
    split
    · simp
    · exact rOut _ _
theorem aft_sz (s : Br) : (aftF s).part.data.length + (aftF s).part.buffer.length ≤ s.part.data.length + s.part.buffer.length := by
  unfold aftF
  split
  · exact Nat.le_refl _
  · split
    · exact Nat.le_refl _
    · split
      · split
        · exact Nat.le_refl _
        · simp [rOf]
      · split
        · split
          · exact Nat.le_refl _
          · simp [rOf]
        · split
          · exact Nat.le_refl _
          · exact Nat.le_refl _
theorem takPut_sz (k : Tak) (b : List UInt8) : (k.put b).1.sz ≤ k.sz + 1024 + b.length := by
  cases k with
  | no => simp [Tak.put, Tak.sz]
  | plain r =>
    have := rPutF_data r b
    simp only [Tak.put, Tak.sz]
    omega
  | files r =>
    simp only [Tak.put, Tak.sz]
    unfold bPutF
    split
    · simp only; omega
    · have h1 := aft_sz { r with part := (rPutF r.part b).1 }
      have h2 := rPutF_data r.part b
      simp only at h1 ⊢
      omega
theorem c_tgo {w0 : World} {V : Nat → Prop} {m0 M : Mem} {HT : HL} {it sp : Nat} {ol orr oo : Option Nat} {tv : Value} {s : TgS} {k : Tak} {o : List UInt8} {Q : Value → Mem → Prop} (h : Sep m0 V M ((byH oo o :: HT) ++ tgH it sp ol orr tv s)) (hT : TakR HT tv k) (hoo : oo = none → o.length = 0) (hne : k ≠ .no)
    (hol : ol = none → s.line.length = 0) (hor : orr = none → s.reps.length = 0) (hml : s.mem.length = 16384) (hll : s.line.length ≤ 80) (hbig : k.sz ≤ 140737488355328) (hol9 : o.length ≤ 1000000000) (hq : TgQ V m0 it (ldF { s with tak := k } o) Q) :
    AbC Tryz.prog w0 29 [.pointer (some ⟨it, 0, none⟩), slV oo o.length 1] M Q :=
  c_tloaded (s := { s with tak := k }) (h.perm (List.Perm.cons _ List.perm_append_comm)) hoo ⟨⟨sp, ol, orr, tv, HT, rfl, hT, hol, hor⟩, hml, hll⟩ hne hbig hol9 hq
theorem c_tLoads {w0 : World} {V : Nat → Prop} {m0 m : Mem} {l H : HL} {it : Nat} {s : TgS} {Q : Value → Mem → Prop} (h : Sep m0 V m l) (hR : TgR H it s) (hs : ∀ p ∈ H, p ∈ l) (hq : Q (.bool (!s.tak.isNo)) m) : AbC Tryz.prog w0 19 [.pointer (some ⟨it, 0, none⟩)] m Q := by
  refine AbC_fn ok19 (by simp) ?_
  obtain ⟨⟨sp, ol, orr, tv, HT, rfl, hT, hol, hor⟩, hml, hll⟩ := hR
  have g0 := h.mem (hs _ (List.mem_cons_self ..))
  simp only [tgC] at g0
  cases hk : s.tak with
  | no =>
    rw [hk] at hT hq
    obtain ⟨rfl, rfl⟩ := hT
    simp -implicitDefEqProofs (disch := first | assumption | omega | fail) [rc19, ro19, wkB, retV, stabOk, dC, ev, fillD, pickCells, putAt, bnd, slD, List.getElem?_cons_zero, List.getElem?_cons_succ, Mem.cell, Mem.row, cells_own, cells_ro, g0]
    exact hq
  | plain r =>
    rw [hk] at hT hq
    obtain ⟨ir, rfl, -⟩ := hT
    simp -implicitDefEqProofs (disch := first | assumption | omega | fail) [rc19, ro19, wkB, retV, stabOk, dC, ev, fillD, pickCells, putAt, bnd, slD, List.getElem?_cons_zero, List.getElem?_cons_succ, Mem.cell, Mem.row, cells_own, cells_ro, g0]
    exact hq
  | files r =>
    rw [hk] at hT hq
    obtain ⟨ir, rfl, -⟩ := hT
    simp -implicitDefEqProofs (disch := first | assumption | omega | fail) [rc19, ro19, wkB, retV, stabOk, dC, ev, fillD, pickCells, putAt, bnd, slD, List.getElem?_cons_zero, List.getElem?_cons_succ, Mem.cell, Mem.row, cells_own, cells_ro, g0]
    exact hq
end Go.Proofs.YtiapjjgmmiifmaaGreatDoor.Ab

set_option linter.unusedVariables false
set_option maxRecDepth 100000
namespace Go.Proofs.YtiapjjgmmiifmaaGreatDoor.Ab
open Go Go.RowKit
theorem zst_eq : zst = List.replicate 16384 (.int .u8 0) := by kernel_rfl
end Go.Proofs.YtiapjjgmmiifmaaGreatDoor.Ab

set_option linter.unusedVariables false
set_option linter.unusedSimpArgs false
namespace Go.Proofs.YtiapjjgmmiifmaaGreatDoor.Ab
open Go Go.RowKit
set_option maxHeartbeats 4000000
set_option maxRecDepth 100000
def zmem : List UInt8 := List.replicate 16384 0
theorem zst_map : zst = zmem.map byteV := by
  rw [zst_eq, zmem, List.map_replicate]; rfl
theorem zmem_len : zmem.length = 16384 := by simp [zmem]
def tg0S (tr wt : Int) : TgS := ⟨zmem, tr, wt, true, [], .no, 0, []⟩
theorem c_tOf {w0 : World} {V : Nat → Prop} {m0 m : Mem} {l : HL} {tr wt : Int} {Q : Value → Mem → Prop} (h : Sep m0 V m l)
    (hq : ∀ it H M, Sep m0 V M (H ++ l) → TgR H it (tg0S tr wt) → Q (.pointer (some ⟨it, 0, none⟩)) M) : AbC Tryz.prog w0 10 [.agg ⟨[.int .i64 tr, .int .i64 wt]⟩] m Q := by
  refine AbC_fn ok10 (by simp) ?_
  have hz : ∀ ts : Fr, ∀ m' : Mem, dR ts m' (.bld zst []) = some (.agg ⟨zst⟩) := fun ts m' => by simp [dR, fillD]
  simp -implicitDefEqProofs (disch := first | assumption | omega | fail) [rc10, ro10, wkB, retV, stabOk, dC, ev, fillD, pickCells, putAt, bnd, slD, List.getElem?_cons_zero, List.getElem?_cons_succ, Mem.cell, Mem.row, cells_own, cells_ro, hz]
  refine SK_bxS h (cs := [.int .i64 tr, .int .i64 wt]) (by simp [wkB, retV, stabOk, dC, ev, fillD, pickCells, putAt, bnd, slD, List.getElem?_cons_zero, List.getElem?_cons_succ, Mem.cell, Mem.row, cells_own, cells_ro]) fun B m1 h1 _ _ => ?_
  have g1 := h1.get 0 rfl
  simp -implicitDefEqProofs (disch := first | assumption | omega | fail) [wkB, retV, stabOk, dC, ev, fillD, pickCells, putAt, bnd, slD, List.getElem?_cons_zero, List.getElem?_cons_succ, Mem.cell, Mem.row, cells_own, cells_ro, hz]
  refine SK_bxS h1 (cs := zmem.map byteV) (by simp [wkB, retV, stabOk, dC, ev, fillD, pickCells, putAt, bnd, slD, List.getElem?_cons_zero, List.getElem?_cons_succ, Mem.cell, Mem.row, cells_own, cells_ro]; exact zst_map) fun sp m2 h2 _ _ => ?_
  have g2 := h2.get 1 rfl
  simp -implicitDefEqProofs (disch := first | assumption | omega | fail) [wkB, retV, stabOk, dC, ev, fillD, pickCells, putAt, bnd, slD, List.getElem?_cons_zero, List.getElem?_cons_succ, Mem.cell, Mem.row, cells_own, cells_ro, g2]
  refine SK_bxS h2 (cs := tgC (tg0S tr wt) sp (.slice none 0 0) .nilIface (.slice none 0 0)) (by simp [wkB, retV, stabOk, dC, ev, fillD, pickCells, putAt, bnd, slD, List.getElem?_cons_zero, List.getElem?_cons_succ, Mem.cell, Mem.row, cells_own, cells_ro, tgC, tg0S]) fun it m3 h3 _ _ => ?_
  simp -implicitDefEqProofs (disch := first | assumption | omega | fail) [wkB, retV, stabOk, dC, ev, fillD, pickCells, putAt, bnd, slD, List.getElem?_cons_zero, List.getElem?_cons_succ, Mem.cell, Mem.row, cells_own, cells_ro]
  have h4 := ((h3.del 2).non (.own [] 44)).non (.own [] 5)
  refine hq it (tgH it sp none none .nilIface (tg0S tr wt) ++ []) m3 ?_ ⟨⟨sp, none, none, .nilIface, [], rfl, ⟨rfl, rfl⟩, fun _ => rfl, fun _ => rfl⟩, zmem_len, by simp [tg0S]⟩
  rw [List.append_nil]
  refine h4.perm ?_
  exact (List.perm_append_comm (l₁ := [(none, Ent.own [] 5), (none, Ent.own [] 44)]) (l₂ := [(some it, Ent.own (tgC (tg0S tr wt) sp (.slice none 0 0) .nilIface (.slice none 0 0)) 34), stH sp zmem])).append_right l
theorem c_tPutIn {w0 : World} {V : Nat → Prop} {m : Mem} {it : Nat} {v : Value} {b : List UInt8} {s0 : TgS} {fr : Fr} {Q : Value → Mem → Prop} (ht : Ten w0) (hE : ErrV w0) {H : HL} (h : Sep m V m H) (hR : TgR H it s0) (hno : s0.tak = .no) (hr : RdV V m 1 v (b.map byteV) b.length)
    (hb : b.length ≤ 4000000) (hrl : s0.reps.length + b.length ≤ 1000000000) (hq : TgQ V m it (tPutL s0 [] b) Q) (t0 : fr 0 = .pointer (some ⟨it, 0, none⟩)) (t1 : fr 1 = v) :
    AbW Tryz.prog w0 rc12_3 (bodyA [.mv (.tmp 4)] Q) fr m := by
  have hsl := hr.sl.slen
  simp -implicitDefEqProofs (disch := first | assumption | omega | fail) [rc12_3, wkB, retV, stabOk, dC, ev, fillD, pickCells, putAt, bnd, slD, List.getElem?_cons_zero, List.getElem?_cons_succ, Mem.cell, Mem.row, cells_own, cells_ro, t0, t1, hsl]
  refine LoopW_of (fun k ts m' => ∃ j sj oj obj Hj, j + k = b.length ∧ Sep m V m' (byH obj oj :: Hj) ∧ TgR Hj it sj ∧ (obj = none → oj.length = 0) ∧ oj.length ≤ 200 * j ∧ sj.reps.length ≤ s0.reps.length + j ∧ sj.tak.sz = 0 ∧ tPutL s0 [] b = tPutL sj oj (b.drop j) ∧
    ts 0 = .pointer (some ⟨it, 0, none⟩) ∧ ts 1 = v ∧ ts 5 = slV obj oj.length 1 ∧ ts 21 = v ∧ ts 22 = .int .i64 (b.length : Nat) ∧ ts 23 = .int .i64 (j : Nat)) b.length ?_ ?_
  · exact ⟨0, s0, [], none, H, by omega, h.non _, hR, fun _ => rfl, by simp, by omega, by rw [hno]; rfl, by simp, by simp [t0], by simp [t1], by simp [slV], by simp, by simp, by simp⟩
  · rintro k ts m1 K ⟨j, sj, oj, obj, Hj, hj, h1, hRj, hobj, holj, hrlj, hszj, heq, t0, t1, t5, t21, t22, t23⟩ hK
    by_cases hjl : j < b.length
    · have hj8 : (j : Int) < (b.length : Nat) := by omega
      have hrv := hr.sep h1
      obtain ⟨i, o, L, e1, e2, e3, e4, e5, e6⟩ := hrv.ex (by omega)
      have hc : L[o + j]? = some (byteV (b.getD j 0)) := (e4 j hjl).trans (byte_at hjl)
      simp only [byteV] at hc
      have hidx : sidx 1 v (.int .i64 (j : Int)) = some (.pointer (some ⟨i, o + j, none⟩)) := by rw [e1]; simpa using sidx_at (b := i) (o := o) (n := b.length) (c := 1) (j := j) (sz := 1) (k := .i64) hjl
      have w1 : IntKind.i64.wrap ((j : Int) + 1) = (j : Int) + 1 := w64 (by omega)
      have hdrop : b.drop j = b.getD j 0 :: b.drop (j + 1) := by
        rw [List.drop_eq_getElem_cons hjl, List.getD_eq_getElem?_getD, List.getElem?_eq_getElem hjl]; rfl
      have hRj0 := hRj
      obtain ⟨⟨sp, ol, orr, tv, HT, rfl, hT, hol, hor⟩, hml, hll⟩ := hRj
      have g1 := h1.get 1 rfl
      simp only [tgC] at g1
      cases hnk : sj.tak.isNo with
      | true =>
        have hkn := Tak.isNo_iff.1 hnk
        rw [hdrop, tPutL, if_pos hnk] at heq
        rw [hkn] at hT
        obtain ⟨rfl, rfl⟩ := hT
        generalize b.getD j 0 = c at *
        simp -implicitDefEqProofs (disch := first | assumption | omega | fail) [rc12_1, rc12_0, wkB, retV, stabOk, dC, ev, fillD, pickCells, putAt, bnd, slD, List.getElem?_cons_zero, List.getElem?_cons_succ, Mem.cell, Mem.row, cells_own, cells_ro, t0, t1, t5, t21, t22, t23, hj8, hidx, e2, hc, getL1 hc, g1]
        have hkeep := putCF_keep sj c hkn
        have h1' := h1.rot1
        refine c_tput ht hE h1'.fr hRj0 hkn (by omega) fun oo H2 M2 hM hR2 hoo => ?_
        have h2 := h1'.un hM
        generalize putCF sj c = r at *
        have hO := (h2.slO 0 (k := r.2.length) (sz := 1) rfl (by simp) hoo).read
        simp -implicitDefEqProofs (disch := first | assumption | omega | fail) [wkB, retV, stabOk, dC, ev, fillD, pickCells, putAt, bnd, slD, List.getElem?_cons_zero, List.getElem?_cons_succ, Mem.cell, Mem.row, cells_own, cells_ro, t5, t23]
        have h3 : Sep m V M2 (byH obj oj :: (byH oo r.2 :: H2)) := h2.perm (List.perm_append_comm (l₁ := byH oo r.2 :: H2) (l₂ := [byH obj oj]))
        refine SK_apS h3 0 (n := oj.length) (k := r.2.length) (ys := r.2.map byteV) rfl (by simp [wkB, retV, stabOk, dC, ev, fillD, pickCells, putAt, bnd, slD, List.getElem?_cons_zero, List.getElem?_cons_succ, Mem.cell, Mem.row, cells_own, cells_ro, t5]) (by simp) hobj (by simp [wkB, retV, stabOk, dC, ev, fillD, pickCells, putAt, bnd, slD, List.getElem?_cons_zero, List.getElem?_cons_succ, Mem.cell, Mem.row, cells_own, cells_ro]; exact hO.elems) (by simp [wkB, retV, stabOk, dC, ev, fillD, pickCells, putAt, bnd, slD, List.getElem?_cons_zero, List.getElem?_cons_succ, Mem.cell, Mem.row, cells_own, cells_ro]; exact hO.lenV) (byteV_oneC _) (by omega) (by unfold maxLen; omega) (by simp) fun ob4 m4 h4 hn4 _ => ?_
        simp -implicitDefEqProofs (disch := first | assumption | omega | fail) [wkB, retV, stabOk, dC, ev, fillD, pickCells, putAt, bnd, slD, List.getElem?_cons_zero, List.getElem?_cons_succ, Mem.cell, Mem.row, cells_own, cells_ro, t23, w1]
        have e7 : oj.map byteV ++ r.2.map byteV = (oj ++ r.2).map byteV := by simp
        rw [e7] at h4
        refine hK (k - 1) _ _ (by omega) ⟨j + 1, r.1, oj ++ r.2, ob4, H2, by omega, h4.del 1, hR2, fun e => by have := hn4 e; simp only [List.length_append]; omega, by simp only [List.length_append]; omega, by omega, hkeep.1, heq, by simp [t0], by simp [t1], by simp, by simp [t21], by simp [t22], by simp⟩
      | false =>
        have hkn : sj.tak ≠ .no := fun e => by rw [e] at hnk; cases hnk
        rw [hdrop, tPutL, if_neg (by rw [hnk]; simp), ← hdrop] at heq
        rw [heq] at hq
        have htv : ∃ t x, tv = .iface t x := by
          cases hs : sj.tak with
          | no => exact absurd hs hkn
          | plain r => rw [hs] at hT; obtain ⟨ir, rfl, -⟩ := hT; exact ⟨_, _, rfl⟩
          | files r => rw [hs] at hT; obtain ⟨ir, rfl, -⟩ := hT; exact ⟨_, _, rfl⟩
        obtain ⟨tt, tx, rfl⟩ := htv
        obtain ⟨v2, hv2, hr2, hb2⟩ := hrv.sl.behind (k := j) (by omega)
        rw [Nat.mul_one, ← List.map_drop] at hr2
        have hdl : (b.drop j).length = b.length - j := by simp
        rw [← hdl] at hr2
        have hrv2 : RdV V m1 1 v2 ((b.drop j).map byteV) (b.drop j).length := ⟨hr2, fun x hx => hrv.bl x (hb2 x hx)⟩
        generalize b.getD j 0 = c at *
        generalize b.drop j = bj at *
        simp -implicitDefEqProofs (disch := first | assumption | omega | fail) [rc12_1, rc12_0, wkB, retV, stabOk, dC, ev, fillD, pickCells, putAt, bnd, slD, List.getElem?_cons_zero, List.getElem?_cons_succ, Mem.cell, Mem.row, cells_own, cells_ro, t0, t1, t5, t21, t22, t23, hj8, hidx, e2, hc, getL1 hc, g1, hv2]
        have h1' : Sep m V m1 (HT ++ (byH obj oj :: tgH it sp ol orr (.iface tt tx) sj)) := h1.perm (List.perm_append_comm (l₁ := byH obj oj :: tgH it sp ol orr (.iface tt tx) sj) (l₂ := HT))
        have hsz := takPut_sz sj.tak bj
        have hso := takPut_out sj.tak bj
        refine call_takPut ht hE h1'.fr hT hkn (hrv2.mono fun _ _ hx => .inl hx) (by omega) (by simp [wkB, retV, stabOk, dC, ev, fillD, pickCells, putAt, bnd, slD, List.getElem?_cons_zero, List.getElem?_cons_succ, Mem.cell, Mem.row, cells_own, cells_ro]) (by simp [wkB, retV, stabOk, dC, ev, fillD, pickCells, putAt, bnd, slD, List.getElem?_cons_zero, List.getElem?_cons_succ, Mem.cell, Mem.row, cells_own, cells_ro]) fun oo HT2 M hM hT2 hoo => ?_
        have h2 := h1'.un hM
        have h3 : Sep m V M (((byH oo (sj.tak.put bj).2 :: HT2) ++ tgH it sp ol orr (.iface tt tx) sj) ++ [byH obj oj]) := h2.perm (by
          rw [List.append_assoc]
          exact List.Perm.append_left _ (List.perm_append_comm (l₁ := [byH obj oj]) (l₂ := tgH it sp ol orr (.iface tt tx) sj)))
        simp -implicitDefEqProofs (disch := first | assumption | omega | fail) [wkB, retV, stabOk, dC, ev, fillD, pickCells, putAt, bnd, slD, List.getElem?_cons_zero, List.getElem?_cons_succ, Mem.cell, Mem.row, cells_own, cells_ro]
        refine c_tgo h3.fr hT2 hoo (takPut_no hkn) hol hor hml hll (by omega) (by omega) fun oo3 H3 M3 hM3 hR3 hoo3 => ?_
        have h4 : Sep m V M3 (byH obj oj :: (byH oo3 _ :: H3)) := (h3.un hM3).perm (List.perm_append_comm (l₂ := [byH obj oj]))
        have hldl : ∀ s o, (ldF s o).2.length ≤ o.length + 6 := fun s o => by
          unfold ldF
          split
          · simp
          · split
            · simp [proL]
            · simp [proL]
        have hld := hldl { sj with tak := (sj.tak.put bj).1 } (sj.tak.put bj).2
        generalize ldF { sj with tak := (sj.tak.put bj).1 } (sj.tak.put bj).2 = r at *
        have hO := (h4.slO 1 (k := r.2.length) (sz := 1) rfl (by simp) hoo3).read
        simp -implicitDefEqProofs (disch := first | assumption | omega | fail) [wkB, retV, stabOk, dC, ev, fillD, pickCells, putAt, bnd, slD, List.getElem?_cons_zero, List.getElem?_cons_succ, Mem.cell, Mem.row, cells_own, cells_ro]
        refine SK_apS h4 0 (n := oj.length) (k := r.2.length) (ys := r.2.map byteV) rfl (by simp [wkB, retV, stabOk, dC, ev, fillD, pickCells, putAt, bnd, slD, List.getElem?_cons_zero, List.getElem?_cons_succ, Mem.cell, Mem.row, cells_own, cells_ro]) (by simp) hobj (by simp [wkB, retV, stabOk, dC, ev, fillD, pickCells, putAt, bnd, slD, List.getElem?_cons_zero, List.getElem?_cons_succ, Mem.cell, Mem.row, cells_own, cells_ro]; exact hO.elems) (by simp [wkB, retV, stabOk, dC, ev, fillD, pickCells, putAt, bnd, slD, List.getElem?_cons_zero, List.getElem?_cons_succ, Mem.cell, Mem.row, cells_own, cells_ro]; exact hO.lenV) (byteV_oneC _) (by omega) (by unfold maxLen; omega) (by simp) fun ob5 m5 h5 hn5 _ => ?_
        simp -implicitDefEqProofs (disch := first | assumption | omega | fail) [wkB, retV, stabOk, dC, ev, fillD, pickCells, putAt, bnd, slD, List.getElem?_cons_zero, List.getElem?_cons_succ, Mem.cell, Mem.row, cells_own, cells_ro]
        have e7 : oj.map byteV ++ r.2.map byteV = (oj ++ r.2).map byteV := by simp
        rw [e7] at h5
        have := hq ob5 H3 m5 (h5.del 1) hR3 (fun e => by simp only [List.length_append]; exact hn5 e)
        simp only [List.length_append] at this
        exact this
    · have hjj : j = b.length := by omega
      subst hjj
      have hj8 : ¬ ((b.length : Nat) : Int) < (b.length : Nat) := by omega
      rw [List.drop_length, tPutL] at heq
      rw [heq] at hq
      simp -implicitDefEqProofs (disch := first | assumption | omega | fail) [rc12_1, rc12_2, wkB, retV, stabOk, dC, ev, fillD, pickCells, putAt, bnd, slD, List.getElem?_cons_zero, List.getElem?_cons_succ, Mem.cell, Mem.row, cells_own, cells_ro, t5, t22, t23, hj8]
      exact hq obj Hj m1 h1 hRj hobj
theorem c_tPut {w0 : World} {V : Nat → Prop} {m : Mem} {H : HL} {it : Nat} {v : Value} {b : List UInt8} {s : TgS} {Q : Value → Mem → Prop} (ht : Ten w0) (hE : ErrV w0) (h : Sep m V m H) (hR : TgR H it s) (hr : RdV V m 1 v (b.map byteV) b.length)
    (hb : b.length ≤ 4000000) (hrl : s.reps.length + b.length ≤ 1000000000) (hbig : s.tak.sz ≤ 1000000000000) (hq : TgQ V m it (tPutF s b) Q) :
    AbC Tryz.prog w0 12 [.pointer (some ⟨it, 0, none⟩), v] m Q := by
  refine AbC_fn ok12 (by simp) ?_
  have hR0 := hR
  obtain ⟨⟨sp, ol, orr, tv, HT, rfl, hT, hol, hor⟩, hml, hll⟩ := hR
  have g0 := h.get 0 rfl
  simp only [tgC] at g0
  unfold tPutF at hq
  cases hnk : s.tak.isNo with
  | true =>
    rw [if_pos hnk] at hq
    have hkn := Tak.isNo_iff.1 hnk
    rw [hkn] at hT
    obtain ⟨rfl, rfl⟩ := hT
    simp -implicitDefEqProofs (disch := first | assumption | omega | fail) [rc12, ro12, wkB, retV, stabOk, dC, ev, fillD, pickCells, putAt, bnd, slD, List.getElem?_cons_zero, List.getElem?_cons_succ, Mem.cell, Mem.row, cells_own, cells_ro, g0]
    exact c_tPutIn ht hE h hR0 hkn hr hb hrl hq (by simp [frA_at]) (by simp [frA_at])
  | false =>
    rw [if_neg (by rw [hnk]; simp)] at hq
    have hkn : s.tak ≠ .no := fun e => by rw [e] at hnk; cases hnk
    have htv : ∃ t x, tv = .iface t x := by
      cases hs : s.tak with
      | no => exact absurd hs hkn
      | plain r => rw [hs] at hT; obtain ⟨ir, rfl, -⟩ := hT; exact ⟨_, _, rfl⟩
      | files r => rw [hs] at hT; obtain ⟨ir, rfl, -⟩ := hT; exact ⟨_, _, rfl⟩
    obtain ⟨tt, tx, rfl⟩ := htv
    have h1' : Sep m V m (HT ++ tgH it sp ol orr (.iface tt tx) s) := h.perm List.perm_append_comm
    have hsz := takPut_sz s.tak b
    have hso := takPut_out s.tak b
    simp -implicitDefEqProofs (disch := first | assumption | omega | fail) [rc12, ro12, wkB, retV, stabOk, dC, ev, fillD, pickCells, putAt, bnd, slD, List.getElem?_cons_zero, List.getElem?_cons_succ, Mem.cell, Mem.row, cells_own, cells_ro, g0]
    refine call_takPut ht hE h1'.fr hT hkn (hr.mono fun _ _ hx => .inl hx) (by omega) (by simp [wkB, retV, stabOk, dC, ev, fillD, pickCells, putAt, bnd, slD, List.getElem?_cons_zero, List.getElem?_cons_succ, Mem.cell, Mem.row, cells_own, cells_ro]) (by simp [wkB, retV, stabOk, dC, ev, fillD, pickCells, putAt, bnd, slD, List.getElem?_cons_zero, List.getElem?_cons_succ, Mem.cell, Mem.row, cells_own, cells_ro, frA_at]) fun oo HT2 M hM hT2 hoo => ?_
    simp -implicitDefEqProofs (disch := first | assumption | omega | fail) [wkB, retV, stabOk, dC, ev, fillD, pickCells, putAt, bnd, slD, List.getElem?_cons_zero, List.getElem?_cons_succ, Mem.cell, Mem.row, cells_own, cells_ro]
    refine c_tgo (h1'.un hM) hT2 hoo (takPut_no hkn) hol hor hml hll (by omega) (by omega) fun oo2 H2 M2 h2 hR2 hoo2 => ?_
    simp -implicitDefEqProofs (disch := first | assumption | omega | fail) [wkB, retV, stabOk, dC, ev, fillD, pickCells, putAt, bnd, slD, List.getElem?_cons_zero, List.getElem?_cons_succ, Mem.cell, Mem.row, cells_own, cells_ro]
    exact hq oo2 H2 M2 h2 hR2 hoo2
end Go.Proofs.YtiapjjgmmiifmaaGreatDoor.Ab

set_option linter.unusedVariables false
set_option linter.unusedSimpArgs false
namespace Go.Proofs.YtiapjjgmmiifmaaGreatDoor.Ab
open Go Go.RowKit
set_option maxHeartbeats 4000000
set_option maxRecDepth 100000
theorem fold_push : ∀ (l a : List UInt8), a.length ≤ 80 → l.foldl pushL a = (a ++ l).take 80
  | [], a, h => by simp [List.take_of_length_le h]
  | c :: l, a, h => by
    rw [List.foldl_cons]
    by_cases h2 : a.length < 80
    · have e : pushL a c = a ++ [c] := by unfold pushL; rw [if_pos h2]
      rw [e, fold_push l (a ++ [c]) (by simp; omega)]
      simp
    · have e : pushL a c = a := by unfold pushL; rw [if_neg h2]
      rw [e, fold_push l a h, List.take_append_of_le_length (by omega), List.take_append_of_le_length (by omega)]
theorem tPutL_chars : ∀ (l : List UInt8) (s : TgS) (out r : List UInt8), s.tak = .no → s.asleep = false → (∀ c ∈ l, c ≠ 13) → tPutL s out (l ++ r) = tPutL { s with line := l.foldl pushL s.line } out r
  | [], s, out, r, _, _, _ => rfl
  | c :: l, s, out, r, hno, ha, hl => by
    have hc : putCF s c = ({ s with line := pushL s.line c }, []) := by
      unfold putCF
      rw [if_neg (by rw [ha]; simp), if_neg (hl c (by simp))]
    rw [List.cons_append, tPutL, if_pos (by rw [hno]; rfl), hc, List.append_nil]
    exact tPutL_chars l { s with line := pushL s.line c } out r hno ha fun x hx => hl x (by simp [hx])
theorem tPutL_line {l : List UInt8} {s : TgS} {out : List UInt8} (hno : s.tak = .no) (ha : s.asleep = false) (hl : ∀ c ∈ l, c ≠ 13) (hs : s.line = []) (h80 : l.length ≤ 80) :
    tPutL s out (l ++ [13]) = ((doesF s l).1, out ++ (doesF s l).2) := by
  rw [tPutL_chars l s out [13] hno ha hl, tPutL, if_pos (by simp [hno, Tak.isNo]), tPutL]
  have e1 : l.foldl pushL s.line = l := by
    rw [hs, fold_push l [] (by simp), List.nil_append, List.take_of_length_le h80]
  have e2 : ({ s with line := [] } : TgS) = s := by
    obtain ⟨a, b, c, d, e, f, g, i⟩ := s
    simp only at hs
    subst hs
    rfl
  rw [e1]
  unfold putCF
  rw [if_neg (by simp [ha]), if_pos rfl]
  simp only
  rw [e2]
theorem words_three {a b c : List UInt8} (ha : (32 : UInt8) ∉ a) (hb : (32 : UInt8) ∉ b) (hc : (32 : UInt8) ∉ c) : words 32 (a ++ 32 :: (b ++ 32 :: c)) = [a, b, c] := by
  unfold words
  have e : (a ++ 32 :: (b ++ 32 :: c)).count 32 = 2 := by
    rw [List.count_append, List.count_cons_self, List.count_append, List.count_cons_self, List.count_eq_zero.2 ha, List.count_eq_zero.2 hb, List.count_eq_zero.2 hc]
  rw [e, splitK_hit ha, splitK_hit hb, splitK_zero]
theorem hex_mem (n : Nat) : ∀ c ∈ digs 16 n, c ≠ 32 ∧ c ≠ 13 ∧ c ≠ 115 := by
  have hd : ∀ d : Fin 36, digC d.val ≠ 32 ∧ digC d.val ≠ 13 := by decide +kernel
  have hd2 : ∀ d : Fin 16, digC d.val ≠ 115 := by decide +kernel
  induction n using Nat.strongRecOn with
  | _ n ih =>
    intro c hc
    by_cases h : n < 16
    · rw [digs_lt h] at hc
      simp only [List.mem_cons, List.not_mem_nil, or_false] at hc
      subst hc
      exact ⟨(hd ⟨n, by omega⟩).1, (hd ⟨n, by omega⟩).2, hd2 ⟨n, h⟩⟩
    · rw [digs_ge (by omega) (by omega)] at hc
      rcases List.mem_append.1 hc with hc | hc
      · exact ih (n / 16) (Nat.div_lt_self (by omega) (by omega)) c hc
      · simp only [List.mem_cons, List.not_mem_nil, or_false] at hc
        subst hc
        have : n % 16 < 16 := Nat.mod_lt _ (by omega)
        exact ⟨(hd ⟨n % 16, by omega⟩).1, (hd ⟨n % 16, by omega⟩).2, hd2 ⟨n % 16, this⟩⟩
theorem hex_len {n : Nat} (h : n < 4294967296) : (digs 16 n).length ≤ 17 := by
  have := num16 (i := n) (by omega)
  rwa [numS_nat] at this
def loadT (k a : Nat) : List UInt8 := load4 ++ 32 :: (wayL k ++ 32 :: digs 16 a)
theorem load_eq (k a : Nat) : loadL k a = loadT k a ++ [13] := by
  simp [loadL, loadT, numS_nat, loadW, load4]
theorem way_mem : ∀ k : Fin 4, ∀ c ∈ wayL k.val, c ≠ 32 ∧ c ≠ 13 := by decide +kernel
theorem does_load {s : TgS} {k a : Nat} (hk : k < 4) (ha : a < 4294967296) : doesF s (loadT k a) = (begF s k a, []) := by
  unfold doesF loadT
  rw [words_three (by decide) (fun h => (way_mem ⟨k, hk⟩ 32 h).1 rfl) (fun h => (hex_mem a 32 h).1 rfl)]
  have hw : wayIx (wayL k) = some k := by
    rcases (show k = 0 ∨ k = 1 ∨ k = 2 ∨ k = 3 by omega) with rfl | rfl | rfl | rfl <;> decide
  have hl : loadR s load4 (wayL k) (digs 16 a) = some (begF s k a) := by unfold loadR; rw [if_pos rfl, hexN_digs ha, hw]
  simp only [hl]
theorem tPut_load {s : TgS} {k a : Nat} (hk : k < 4) (ha : a < 4294967296) (hno : s.tak = .no) (has : s.asleep = false) (hs : s.line = []) : tPutF s (loadL k a) = (begF s k a, []) := by
  unfold tPutF
  have la := hex_len ha
  have lw : (wayL k).length ≤ 5 := by rcases (show k = 0 ∨ k = 1 ∨ k = 2 ∨ k = 3 by omega) with rfl | rfl | rfl | rfl <;> decide
  rw [if_pos (by rw [hno]; rfl), load_eq, tPutL_line hno has ?_ hs (by simp [loadT, load4]; omega), does_load hk ha]
  · rfl
  · intro c hc
    simp only [loadT, List.mem_append, List.mem_cons] at hc
    rcases hc with hc | hc | hc | hc | hc
    · revert c; decide
    · subst hc; decide
    · exact (way_mem ⟨k, hk⟩ c hc).2
    · subst hc; decide
    · exact (hex_mem a c hc).2.1
end Go.Proofs.YtiapjjgmmiifmaaGreatDoor.Ab

set_option linter.unusedVariables false
set_option linter.unusedSimpArgs false
namespace Go.Proofs.YtiapjjgmmiifmaaGreatDoor.Ab
open Go Go.RowKit
set_option maxHeartbeats 4000000
set_option maxRecDepth 100000
theorem u8any (z : Int) : ∃ c : UInt8, IntKind.u8.wrap z = (c.toNat : Int) := by
  have h1 : IntKind.u8.wrap z = z % 256 := by
    simp only [IntKind.wrap, IntKind.bits, IntKind.signed]; simp
  refine ⟨UInt8.ofNat (z % 256).toNat, ?_⟩
  rw [h1]
  simp
  omega
theorem xor8 (a b : Int) : ∃ c : UInt8, xorK .u8 a b = (c.toNat : Int) := u8any _
theorem c_Data {w0 : World} {X : Nat → Prop} {m : Mem} {v : Value} {b : List UInt8} {long : Bool} {Q : Value → Mem → Prop} (hp : Part L0 m) (hr : RdV X m 1 v (b.map byteV) b.length) (hb : b.length ≤ 9223372036854775807)
    (hq : ∀ (d : List UInt8) x M, Old m M → m.next ≤ x → x < M.next → M.get x = .own (d.map byteV) 5 → d.length = (if long then 1024 else 128) → Q (.slice (some ⟨x, 0, none⟩) d.length 1) M) :
    AbC Tryz.prog w0 37 [v, .bool long] m Q := by
  refine AbC_fn ok37 (by simp) ?_
  obtain ⟨n, hn⟩ : ∃ n : Nat, n = if long then 1024 else 128 := ⟨_, rfl⟩
  have hn2 : n = 1024 ∨ n = 128 := by rw [hn]; cases long <;> simp
  have key : ∀ fr, fr 0 = v → fr 5 = .int .i64 (n : Int) → AbW Tryz.prog w0 rc37_3 (bodyA [.mv (.tmp 4)] Q) fr m := by
    intro fr t0 t5
    have hrr := hr.o
    simp -implicitDefEqProofs (disch := first | assumption | omega | fail) [rc37_3, wkB, retV, stabOk, dC, ev, fillD, pickCells, putAt, bnd, slD, List.getElem?_cons_zero, List.getElem?_cons_succ, Mem.cell, Mem.row, cells_own, cells_ro, t0, t5]
    refine SK_mkS (Sep.ofOld hp) (n := n) (by simp [wkB, retV, stabOk, dC, ev, fillD, pickCells, putAt, bnd, slD, List.getElem?_cons_zero, List.getElem?_cons_succ, Mem.cell, Mem.row, cells_own, cells_ro, t5]) (by simp [wkB, retV, stabOk, dC, ev, fillD, pickCells, putAt, bnd, slD, List.getElem?_cons_zero, List.getElem?_cons_succ, Mem.cell, Mem.row, cells_own, cells_ro, t5]) (by omega) (by unfold maxLen; omega) fun x m1 h1 _ _ => ?_
    simp -implicitDefEqProofs (disch := first | assumption | omega | fail) [wkB, retV, stabOk, dC, ev, fillD, pickCells, putAt, bnd, slD, List.getElem?_cons_zero, List.getElem?_cons_succ, Mem.cell, Mem.row, cells_own, cells_ro, t0, t5]
    refine LoopW_of (fun k ts m' => ∃ j, ∃ l : List UInt8, j + k = n ∧ l.length = n ∧ Sep m (fun i => i < m.next) m' [(some x, .own (l.map byteV) 5)] ∧ ts 0 = v ∧ ts 6 = .slice (some ⟨x, 0, none⟩) n 1 ∧ ts 12 = .int .i64 (n : Int) ∧ ts 13 = .int .i64 (j : Nat)) n ?_ ?_
    · exact ⟨0, List.replicate n 0, by omega, by simp, by rw [List.map_replicate]; exact h1, by simp [t0], by simp, by simp, by simp⟩
    · rintro k ts m' K ⟨j, l, hj, hl, h2, t0, t6, t12, t13⟩ hK
      have hsl := hrr.sl.slen
      by_cases hjl : j < n
      · have hj8 : (j : Int) < (n : Int) := by omega
        have w1 : IntKind.i64.wrap ((j : Int) + 1) = (j : Int) + 1 := w64 (by omega)
        by_cases hb0 : 0 < b.length
        · have hb8 : (0 : Int) < (b.length : Int) := by omega
          have r1 : dBin .rem (.int .i64 (j : Int)) (.int .i64 (b.length : Int)) = some (.int .i64 ((j % b.length : Nat) : Int)) := by
            rw [dBin_rem (by omega), Int.tmod_eq_emod_of_nonneg (by omega)]; rfl
          have q1 : dBin .quo (.int .i64 (j : Int)) (.int .i64 (b.length : Int)) = some (.int .i64 ((j / b.length : Nat) : Int)) := by
            have hle : j / b.length ≤ j := Nat.div_le_self _ _
            rw [dBin_quo (by omega), Int.tdiv_eq_ediv_of_nonneg (by omega)]
            rw [show (j : Int) / (b.length : Int) = ((j / b.length : Nat) : Int) from rfl]
            generalize j / b.length = z at *
            rw [w64 (by omega)]
          have hlt : j % b.length < b.length := Nat.mod_lt _ hb0
          generalize j % b.length = p at *
          generalize j / b.length = q at *
          obtain ⟨i, o, L, e1, e2, e3, e4, e5, e6⟩ := (hrr.sep h2).ex hb0
          have hc : L[o + p]? = some (byteV (b.getD p 0)) := (e4 p hlt).trans (byte_at hlt)
          simp only [byteV] at hc
          have hidx : sidx 1 v (.int .i64 (p : Int)) = some (.pointer (some ⟨i, o + p, none⟩)) := by rw [e1]; simpa using sidx_at (b := i) (o := o) (n := b.length) (c := 1) (j := p) (sz := 1) (k := .i64) hlt
          have hidj : sidx 1 (.slice (some ⟨x, 0, none⟩) n 1) (.int .i64 (j : Int)) = some (.pointer (some ⟨x, j, none⟩)) := by simpa using sidx_at (b := x) (o := 0) (n := n) (c := 1) (j := j) (sz := 1) (k := .i64) hjl
          generalize b.getD p 0 = c at *
          obtain ⟨c2, hc2⟩ := u8any ((q : Nat) : Int)
          obtain ⟨c3, hc3⟩ := u8any ((c.toNat : Int) + (c2.toNat : Int))
          simp -implicitDefEqProofs (disch := first | assumption | omega | fail) [rc37_1, rc37_0, wkB, retV, stabOk, dC, ev, fillD, pickCells, putAt, bnd, slD, List.getElem?_cons_zero, List.getElem?_cons_succ, Mem.cell, Mem.row, cells_own, cells_ro, t0, t6, t12, t13, hj8, hsl, hb0, hb8, r1, q1, hidx, hidj, e2, hc, getL1 hc, hc2, hc3]
          refine SK_stS h2 0 rfl (o := j) (vs := [byteV c3]) (cs' := (l.set j c3).map byteV) (by simp [wkB, retV, stabOk, dC, ev, fillD, pickCells, putAt, bnd, slD, List.getElem?_cons_zero, List.getElem?_cons_succ, Mem.cell, Mem.row, cells_own, cells_ro]) (by simp [wkB, retV, stabOk, dC, ev, fillD, pickCells, putAt, bnd, slD, List.getElem?_cons_zero, List.getElem?_cons_succ, Mem.cell, Mem.row, cells_own, cells_ro, byteV, hc3]) (by simp; omega) rfl rfl (by
            rw [List.map_set, List.set_eq_take_append_cons_drop, if_pos (by simp; omega)]
            simp [putAt]) fun m3 h3 _ => ?_
          simp -implicitDefEqProofs (disch := first | assumption | omega | fail) [wkB, retV, stabOk, dC, ev, fillD, pickCells, putAt, bnd, slD, List.getElem?_cons_zero, List.getElem?_cons_succ, Mem.cell, Mem.row, cells_own, cells_ro, t13, w1]
          exact hK (k - 1) _ _ (by omega) ⟨j + 1, l.set j c3, by omega, by simpa using hl, h3, by simp [t0], by simp [t6], by simp [t12], by simp⟩
        · have hb8 : ¬ (0 : Int) < (b.length : Int) := by omega
          simp -implicitDefEqProofs (disch := first | assumption | omega | fail) [rc37_1, rc37_0, wkB, retV, stabOk, dC, ev, fillD, pickCells, putAt, bnd, slD, List.getElem?_cons_zero, List.getElem?_cons_succ, Mem.cell, Mem.row, cells_own, cells_ro, t0, t6, t12, t13, hj8, hsl, hb0, hb8, w1]
          exact hK (k - 1) _ _ (by omega) ⟨j + 1, l, by omega, hl, h2, by simp [t0], by simp [t6], by simp [t12], by simp⟩
      · have hj8 : ¬ (j : Int) < (n : Int) := by omega
        simp -implicitDefEqProofs (disch := first | assumption | omega | fail) [rc37_1, rc37_2, wkB, retV, stabOk, dC, ev, fillD, pickCells, putAt, bnd, slD, List.getElem?_cons_zero, List.getElem?_cons_succ, Mem.cell, Mem.row, cells_own, cells_ro, t6, t12, t13, hj8]
        have := hq l x m' h2.toOld (by have := h2.nv 0 rfl; omega) (h2.lt 0 rfl) (h2.get 0 rfl) (by rw [hl, hn])
        rw [hl] at this
        exact this
  cases long with
  | true =>
    simp only [if_true] at hn
    subst hn
    simp -implicitDefEqProofs (disch := first | assumption | omega | fail) [rc37, ro37, wkB, retV, stabOk, dC, ev, fillD, pickCells, putAt, bnd, slD, List.getElem?_cons_zero, List.getElem?_cons_succ, Mem.cell, Mem.row, cells_own, cells_ro]
    exact key _ (by simp [frA_at]) (by first | rfl | simp)
  | false =>
    simp only [Bool.false_eq_true, if_false] at hn
    subst hn
    simp -implicitDefEqProofs (disch := first | assumption | omega | fail) [rc37, ro37, wkB, retV, stabOk, dC, ev, fillD, pickCells, putAt, bnd, slD, List.getElem?_cons_zero, List.getElem?_cons_succ, Mem.cell, Mem.row, cells_own, cells_ro]
    exact key _ (by simp [frA_at]) (by first | rfl | simp)
end Go.Proofs.YtiapjjgmmiifmaaGreatDoor.Ab

set_option linter.unusedVariables false
set_option linter.unusedSimpArgs false
namespace Go.Proofs.YtiapjjgmmiifmaaGreatDoor.Ab
open Go Go.RowKit
set_option maxHeartbeats 4000000
set_option maxRecDepth 100000
theorem rem8 {a b : Nat} (hb : 0 < b) : dBin .rem (.int .u8 (a : Int)) (.int .u8 (b : Int)) = some (.int .u8 ((a % b : Nat) : Int)) := by
  rw [dBin_rem (by omega), Int.tmod_eq_emod_of_nonneg (by omega)]; rfl
theorem w16i {z : Nat} (h : z < 65536) : IntKind.i64.wrap (z : Int) = (z : Int) := w64 (by omega)
theorem slW_upto' {ob : Option Nat} {n k : Nat} (hp : ob = none → n = 0) (hk : k ≤ n) : slW 1 (slV ob n 1) none (some (.int .i64 (k : Int))) = some (slV ob k 1) := by
  cases ob with
  | none =>
    have := hp rfl
    subst this
    have hk0 : k = 0 := by omega
    subst hk0
    simp [slW, dR, ev, bnd, slV]
  | some b => simp [slW, dR, ev, bnd, slV, slD, hk]
theorem own_upto {m : Mem} {x n k : Nat} {l : List UInt8} (h : m.get x = .own (l.map byteV) 5) (hl : l.length = n) (hk : k ≤ n) : SlR m 1 (.slice (some ⟨x, 0, none⟩) k 1) ((l.take k).map byteV) (l.take k).length := by
  have hk2 : (l.take k).length = k := by simp; omega
  refine ⟨by simp, .inr ⟨x, 0, l.map byteV, by rw [hk2], by rw [h]; rfl, by simp; exact Nat.min_le_right _ _, ?_⟩⟩
  rw [hk2, Nat.mul_one, List.drop_zero, List.map_take]
theorem c_aPut {w0 : World} {X : Nat → Prop} {m : Mem} {v : Value} {b : List UInt8} {op no at_ : Nat} {by_ : Int} {next : UInt8} {crc : Bool} {Q : Value → Mem → Prop} (hp : Part L0 m) (hr : RdV X m 1 v (b.map byteV) b.length) (hb : b.length ≤ 9223372036854775807) (hno : no < 256) (hat : at_ < 65536)
    (hq : ∀ u (l : List UInt8) M, Old m M → SlR M 1 u (l.map byteV) l.length → (∀ i, blk u = some i → (m.next ≤ i ∧ i < M.next) ∨ blk v = some i) → l.length ≤ b.length + 1100 → (op = 4 → no = 0 → ∃ d : List UInt8, d.length = 128 ∧ l = blkL next d crc) → Q u M) :
    AbC Tryz.prog w0 20 [.agg ⟨[.int .u8 (op : Int), .int .u8 (no : Int), v, .int .u16 (at_ : Int), .int .u8 by_]⟩, .int .u8 (next.toNat : Int), .bool crc] m Q := by
  refine AbC_fn ok20 (by simp) ?_
  have hrr := hr.o
  have hov : cellsV v = [v] ∧ oneC v = true := by
    rcases hr.sl.2 with ⟨_, rfl | rfl⟩ | ⟨i, o, L, rfl, _⟩ <;> exact ⟨rfl, rfl⟩
  have r8 : ∀ k : Nat, dBin .rem (.int .u8 (k : Int)) (.int .u8 8) = some (.int .u8 ((k % 8 : Nat) : Int)) := fun k => rem8 (b := 8) (by omega)
  have r5 : dBin .rem (.int .u8 (no : Int)) (.int .u8 5) = some (.int .u8 ((no % 5 : Nat) : Int)) := rem8 (b := 5) (by omega)
  have r16 : dBin .rem (.int .u8 (op : Int)) (.int .u8 16) = some (.int .u8 ((op % 16 : Nat) : Int)) := rem8 (b := 16) (by omega)
  have ro := r8 op
  have rn := r8 no
  have hop4 : op = 4 → op % 8 = 4 ∧ op % 16 = 4 := fun h => by subst h; decide
  have hno0 : no = 0 → no % 8 = 0 ∧ no % 5 = 0 := fun h => by subst h; decide
  have l5 : no % 5 < 5 := Nat.mod_lt _ (by omega)
  generalize op % 8 = r at *
  generalize op % 16 = q16 at *
  generalize no % 8 = q8 at *
  generalize no % 5 = j5 at *
  simp -implicitDefEqProofs (disch := first | assumption | omega | fail) [rc20, ro20, wkB, retV, stabOk, dC, ev, fillD, pickCells, putAt, bnd, slD, List.getElem?_cons_zero, List.getElem?_cons_succ, Mem.cell, Mem.row, cells_own, cells_ro]
  refine SK_bxS (Sep.ofOld hp) (cs := [.int .u8 (op : Int), .int .u8 (no : Int), v, .int .u16 (at_ : Int), .int .u8 by_]) (by simp [wkB, retV, stabOk, dC, ev, fillD, pickCells, putAt, bnd, slD, List.getElem?_cons_zero, List.getElem?_cons_succ, Mem.cell, Mem.row, cells_own, cells_ro]) fun x0 m1 h1 _ _ => ?_
  have g1 := h1.get 0 rfl
  simp -implicitDefEqProofs (disch := first | assumption | omega | fail) [wkB, retV, stabOk, dC, ev, fillD, pickCells, putAt, bnd, slD, List.getElem?_cons_zero, List.getElem?_cons_succ, Mem.cell, Mem.row, cells_own, cells_ro, g1, ro]
  by_cases e0 : r = 0
  · have f0 : ((r : Int) == 0) = true := by rw [e0]; rfl
    simp -implicitDefEqProofs (disch := first | assumption | omega | fail) [wkB, retV, stabOk, dC, ev, fillD, pickCells, putAt, bnd, slD, List.getElem?_cons_zero, List.getElem?_cons_succ, Mem.cell, Mem.row, cells_own, cells_ro, f0, g1]
    refine SK_bslS h1 (cs := ([4, 24, 6, 21, 1] : List UInt8).map byteV) (by simp [fillD, pickCells, wkB, retV, stabOk, dC, ev, fillD, pickCells, putAt, bnd, slD, List.getElem?_cons_zero, List.getElem?_cons_succ, Mem.cell, Mem.row, cells_own, cells_ro, byteV]) rfl fun x1 m2 h2 _ _ => ?_
    have g2 := h2.get 1 rfl
    have g20 := h2.get 0 rfl
    have hidx : sidx 1 (.slice (some ⟨x1, 0, none⟩) 5 1) (.int .u8 (j5 : Int)) = some (.pointer (some ⟨x1, j5, none⟩)) := by simpa using sidx_at (b := x1) (o := 0) (n := 5) (c := 1) (j := j5) (sz := 1) (k := .u8) l5
    have hc := byte_at (b := [4, 24, 6, 21, 1]) (k := j5) l5
    simp only [byteV] at hc
    obtain ⟨C, hC⟩ : ∃ C, ([4, 24, 6, 21, 1] : List UInt8).map byteV = C := ⟨_, rfl⟩
    have hc : C[j5]? = some (.int .u8 ((([4, 24, 6, 21, 1] : List UInt8).getD j5 0).toNat : Int)) := by rw [← hC]; exact hc
    rw [hC] at g20
    generalize ([4, 24, 6, 21, 1] : List UInt8).getD j5 0 = c at *
    simp -implicitDefEqProofs (disch := first | assumption | omega | fail) [wkB, retV, stabOk, dC, ev, fillD, pickCells, putAt, bnd, slD, List.getElem?_cons_zero, List.getElem?_cons_succ, Mem.cell, Mem.row, cells_own, cells_ro, g2, r5, hidx, g20, hc, getL1 hc]
    refine SK_bslS h2 (cs := ([c] : List UInt8).map byteV) (by simp [fillD, pickCells, wkB, retV, stabOk, dC, ev, fillD, pickCells, putAt, bnd, slD, List.getElem?_cons_zero, List.getElem?_cons_succ, Mem.cell, Mem.row, cells_own, cells_ro, byteV, g20, hc, getL1 hc]) rfl fun x3 m3 h3 _ _ => ?_
    simp -implicitDefEqProofs (disch := first | assumption | omega | fail) [wkB, retV, stabOk, dC, ev, fillD, pickCells, putAt, bnd, slD, List.getElem?_cons_zero, List.getElem?_cons_succ, Mem.cell, Mem.row, cells_own, cells_ro]
    have := hq (.slice (some ⟨x3, 0, none⟩) 1 1) [c] m3 h3.toOld (h3.slO 0 (k := 1) (sz := 1) (ob := some x3) rfl rfl (fun e => by cases e)).read (fun i hi => by cases hi; exact .inl ⟨by have := h3.nv 0 rfl; omega, h3.lt 0 rfl⟩) (by simp) (fun h _ => by have := (hop4 h).1; omega)
    exact this
  · have f0 : ((r : Int) == 0) = false := beq_eq_false_iff_ne.2 (by omega)
    by_cases e1 : r = 1
    · have f1 : ((r : Int) == 1) = true := by rw [e1]; rfl
      simp -implicitDefEqProofs (disch := first | assumption | omega | fail) [wkB, retV, stabOk, dC, ev, fillD, pickCells, putAt, bnd, slD, List.getElem?_cons_zero, List.getElem?_cons_succ, Mem.cell, Mem.row, cells_own, cells_ro, f0, f1, g1]
      refine SK_bslS h1 (cs := ([24, 24] : List UInt8).map byteV) (by simp [fillD, pickCells, wkB, retV, stabOk, dC, ev, fillD, pickCells, putAt, bnd, slD, List.getElem?_cons_zero, List.getElem?_cons_succ, Mem.cell, Mem.row, cells_own, cells_ro, byteV]) rfl fun x1 m2 h2 _ _ => ?_
      simp -implicitDefEqProofs (disch := first | assumption | omega | fail) [wkB, retV, stabOk, dC, ev, fillD, pickCells, putAt, bnd, slD, List.getElem?_cons_zero, List.getElem?_cons_succ, Mem.cell, Mem.row, cells_own, cells_ro]
      exact hq (.slice (some ⟨x1, 0, none⟩) 2 1) [24, 24] m2 h2.toOld (h2.slO 0 (k := 2) (sz := 1) (ob := some x1) rfl rfl (fun e => by cases e)).read (fun i hi => by cases hi; exact .inl ⟨by have := h2.nv 0 rfl; omega, h2.lt 0 rfl⟩) (by simp) (fun h _ => by have := (hop4 h).1; omega)
    · have f1 : ((r : Int) == 1) = false := beq_eq_false_iff_ne.2 (by omega)
      by_cases e2 : r = 2
      · have f2 : ((r : Int) == 2) = true := by rw [e2]; rfl
        simp -implicitDefEqProofs (disch := first | assumption | omega | fail) [wkB, retV, stabOk, dC, ev, fillD, pickCells, putAt, bnd, slD, List.getElem?_cons_zero, List.getElem?_cons_succ, Mem.cell, Mem.row, cells_own, cells_ro, f0, f1, f2, g1]
        exact hq v b m1 h1.toOld (hrr.sep h1).sl (fun i hi => .inr hi) (by omega) (fun h _ => by have := (hop4 h).1; omega)
      · have f2 : ((r : Int) == 2) = false := beq_eq_false_iff_ne.2 (by omega)
        /- the last cut -/
        have key1 : ∀ fr M (l : List UInt8) x, Sep m (fun i => i < m.next) M ((some x, .own (l.map byteV) 5) :: [(some x0, .own [.int .u8 (op : Int), .int .u8 (no : Int), v, .int .u16 (at_ : Int), .int .u8 by_] 53)]) → fr 3 = .pointer (some ⟨x0, 0, none⟩) → fr 8 = .slice (some ⟨x, 0, none⟩) l.length 1 → 1 ≤ l.length → l.length ≤ 1100 → (op = 4 → no = 0 → ∃ d : List UInt8, d.length = 128 ∧ l = blkL next d crc) →
            AbW Tryz.prog w0 rc20_1 (bodyA [.mv (.tmp 6)] Q) fr M := by
          intro fr M l x hM t3 t8 hl1 hl2 h4
          have gM := hM.get 1 rfl
          have wa : IntKind.i64.wrap (at_ : Int) = (at_ : Int) := w16i hat
          by_cases e12 : q16 = 12
          · have f12 : ((q16 : Int) == 12) = true := by rw [e12]; rfl
            have rl : dBin .rem (.int .i64 (at_ : Int)) (.int .i64 (l.length : Int)) = some (.int .i64 ((at_ % l.length : Nat) : Int)) := by
              rw [dBin_rem (by omega), Int.tmod_eq_emod_of_nonneg (by omega)]; rfl
            have hlt : at_ % l.length < l.length := Nat.mod_lt _ hl1
            have hsu := slW_upto' (ob := some x) (n := l.length) (k := at_ % l.length) (by intro e; cases e) (by omega)
            generalize at_ % l.length = k at *
            have hsu : slW 1 (.slice (some ⟨x, 0, none⟩) l.length 1) none (some (.int .i64 (k : Int))) = some (.slice (some ⟨x, 0, none⟩) k 1) := hsu
            simp -implicitDefEqProofs (disch := first | assumption | omega | fail) [rc20_1, rc20_0, wkB, retV, stabOk, dC, ev, fillD, pickCells, putAt, bnd, slD, List.getElem?_cons_zero, List.getElem?_cons_succ, Mem.cell, Mem.row, cells_own, cells_ro, t3, t8, gM, r16, f12, wa, rl, hsu]
            have hu := own_upto (hM.get 0 rfl) rfl (show k ≤ l.length by omega)
            exact hq (.slice (some ⟨x, 0, none⟩) k 1) (l.take k) M hM.toOld hu (fun i hi => by cases hi; exact .inl ⟨by have := hM.nv 0 rfl; omega, hM.lt 0 rfl⟩) (by simp; omega) (fun h => absurd e12 (by have := (hop4 h).2; omega))
          · have f12 : ((q16 : Int) == 12) = false := beq_eq_false_iff_ne.2 (by omega)
            simp -implicitDefEqProofs (disch := first | assumption | omega | fail) [rc20_1, rc20_0, wkB, retV, stabOk, dC, ev, fillD, pickCells, putAt, bnd, slD, List.getElem?_cons_zero, List.getElem?_cons_succ, Mem.cell, Mem.row, cells_own, cells_ro, t3, t8, gM, r16, f12]
            exact hq (.slice (some ⟨x, 0, none⟩) l.length 1) l M hM.toOld (hM.slO 0 (k := l.length) (sz := 1) (ob := some x) rfl (by simp) (fun e => by cases e)).read (fun i hi => by cases hi; exact .inl ⟨by have := hM.nv 0 rfl; omega, hM.lt 0 rfl⟩) (by omega) h4
        /- the block -/
        have key2 : ∀ fr (n : UInt8), fr 3 = .pointer (some ⟨x0, 0, none⟩) → fr 2 = .bool crc → fr 7 = .int .u8 (n.toNat : Int) → (op = 4 → no = 0 → n = next) → AbW Tryz.prog w0 rc20_2 (bodyA [.mv (.tmp 6)] Q) fr m1 := by
          intro fr n t3 t2 t7 hn4
          obtain ⟨lg, hlg⟩ : ∃ lg : Bool, ((j5 : Int) == 4) = lg := ⟨_, rfl⟩
          have hlg0 : no = 0 → lg = false := fun h => by rw [← hlg, (hno0 h).2]; rfl
          simp -implicitDefEqProofs (disch := first | assumption | omega | fail) [rc20_2, wkB, retV, stabOk, dC, ev, fillD, pickCells, putAt, bnd, slD, List.getElem?_cons_zero, List.getElem?_cons_succ, Mem.cell, Mem.row, cells_own, cells_ro, t3, t2, t7, g1, r5, hlg]
          refine c_Data h1.pt (hrr.sep h1) hb fun d x M o1 hx1 hx2 hx3 hdl => ?_
          have h2 := h1.new (ob := some x) (E := .own (d.map byteV) 5) o1 (fun i hi => by cases hi; exact ⟨hx1, hx2, hx3⟩)
          have hdl2 : d.length = 128 ∨ d.length = 1024 := by rw [hdl]; cases lg <;> simp
          have hrd : RdV (fun i => i < M.next) M 1 (.slice (some ⟨x, 0, none⟩) d.length 1) (d.map byteV) d.length := h2.rd 0 (ob := some x) rfl (by simp) (fun e => by cases e) (fun i hi => by cases hi; exact hx2)
          simp -implicitDefEqProofs (disch := first | assumption | omega | fail) [wkB, retV, stabOk, dC, ev, fillD, pickCells, putAt, bnd, slD, List.getElem?_cons_zero, List.getElem?_cons_succ, Mem.cell, Mem.row, cells_own, cells_ro, t2]
          refine c_bMake h2.pt hrd hdl2 fun M3 y o3 hy1 hy2 hy3 => ?_
          have h3 := (h2.new (ob := some y) (E := .own ((blkL n d crc).map byteV) 5) o3 (fun i hi => by cases hi; exact ⟨hy1, hy2, hy3⟩)).del 1
          have hbl := blk_len n d crc
          have htr : 1 ≤ trN crc ∧ trN crc ≤ 2 := by cases crc <;> decide
          have h44 : op = 4 → no = 0 → ∃ d' : List UInt8, d'.length = 128 ∧ blkL n d crc = blkL next d' crc := fun h h' => ⟨d, by rw [hdl, hlg0 h']; rfl, by rw [hn4 h h']⟩
          clear hdl
          generalize blkL n d crc = l at *
          have hlb : 1 ≤ l.length ∧ l.length ≤ 1100 := by clear h44; omega
          have g3 := h3.get 1 rfl
          have wa : IntKind.i64.wrap (at_ : Int) = (at_ : Int) := w16i hat
          by_cases e3 : r = 3
          · have f3 : ((r : Int) == 3) = true := by rw [e3]; rfl
            have rl : dBin .rem (.int .i64 (at_ : Int)) (.int .i64 (l.length : Int)) = some (.int .i64 ((at_ % l.length : Nat) : Int)) := by
              rw [dBin_rem (by omega), Int.tmod_eq_emod_of_nonneg (by omega)]; rfl
            have hlt : at_ % l.length < l.length := Nat.mod_lt _ (by omega)
            generalize at_ % l.length = k at *
            have hidx : sidx 1 (.slice (some ⟨y, 0, none⟩) l.length 1) (.int .i64 (k : Int)) = some (.pointer (some ⟨y, k, none⟩)) := by simpa using sidx_at (b := y) (o := 0) (n := l.length) (c := 1) (j := k) (sz := 1) (k := .i64) hlt
            have hc := byte_at (b := l) (k := k) hlt
            simp only [byteV] at hc
            generalize l.getD k 0 = c at *
            obtain ⟨c2, hc2⟩ := xor8 (c.toNat : Int) by_
            have g30 := h3.get 0 rfl
            obtain ⟨L, hL⟩ : ∃ L, l.map byteV = L := ⟨_, rfl⟩
            rw [hL] at g30
            have hc : L[k]? = some (.int .u8 (c.toNat : Int)) := by rw [← hL]; exact hc
            simp -implicitDefEqProofs (disch := first | assumption | omega | fail) [wkB, retV, stabOk, dC, ev, fillD, pickCells, putAt, bnd, slD, List.getElem?_cons_zero, List.getElem?_cons_succ, Mem.cell, Mem.row, cells_own, cells_ro, t3, g3, ro, f3, wa, rl, hidx, g30, hc, getL1 hc, hc2]
            refine SK_stS h3 0 rfl (o := k) (vs := [byteV c2]) (cs' := (l.set k c2).map byteV) (by simp [wkB, retV, stabOk, dC, ev, fillD, pickCells, putAt, bnd, slD, List.getElem?_cons_zero, List.getElem?_cons_succ, Mem.cell, Mem.row, cells_own, cells_ro]) (by simp [wkB, retV, stabOk, dC, ev, fillD, pickCells, putAt, bnd, slD, List.getElem?_cons_zero, List.getElem?_cons_succ, Mem.cell, Mem.row, cells_own, cells_ro, byteV, hc2]) (by simp; omega) rfl rfl (by
              rw [List.map_set, List.set_eq_take_append_cons_drop, if_pos (by simp; omega)]
              simp [putAt]) fun m4 h4 _ => ?_
            simp -implicitDefEqProofs (disch := first | assumption | omega | fail) [wkB, retV, stabOk, dC, ev, fillD, pickCells, putAt, bnd, slD, List.getElem?_cons_zero, List.getElem?_cons_succ, Mem.cell, Mem.row, cells_own, cells_ro]
            exact key1 _ m4 (l.set k c2) y h4 (by simp [t3]) (by simp) (by rw [List.length_set]; exact hlb.1) (by rw [List.length_set]; exact hlb.2) (fun h => absurd e3 (by have := (hop4 h).1; omega))
          · have f3 : ((r : Int) == 3) = false := beq_eq_false_iff_ne.2 (by omega)
            simp -implicitDefEqProofs (disch := first | assumption | omega | fail) [wkB, retV, stabOk, dC, ev, fillD, pickCells, putAt, bnd, slD, List.getElem?_cons_zero, List.getElem?_cons_succ, Mem.cell, Mem.row, cells_own, cells_ro, t3, g3, ro, f3]
            exact key1 _ M3 l y h3 (by simp [t3]) (by simp) hlb.1 hlb.2 h44
        /- its number -/
        have key3 : ∀ fr (n : UInt8), fr 3 = .pointer (some ⟨x0, 0, none⟩) → fr 2 = .bool crc → fr 7 = .int .u8 (n.toNat : Int) → (op = 4 → no = 0 → n = next) → AbW Tryz.prog w0 rc20_3 (bodyA [.mv (.tmp 6)] Q) fr m1 := by
          intro fr n t3 t2 t7 hn4
          by_cases e250 : no = 250
          · have f250 : ((no : Int) == 250) = true := by rw [e250]; rfl
            obtain ⟨c, hc⟩ := u8any (at_ : Int)
            simp -implicitDefEqProofs (disch := first | assumption | omega | fail) [rc20_3, wkB, retV, stabOk, dC, ev, fillD, pickCells, putAt, bnd, slD, List.getElem?_cons_zero, List.getElem?_cons_succ, Mem.cell, Mem.row, cells_own, cells_ro, t3, g1, f250, hc]
            exact key2 _ c (by simp [t3]) (by simp [t2]) (by simp) (fun _ h => by omega)
          · have f250 : ((no : Int) == 250) = false := beq_eq_false_iff_ne.2 (by omega)
            simp -implicitDefEqProofs (disch := first | assumption | omega | fail) [rc20_3, wkB, retV, stabOk, dC, ev, fillD, pickCells, putAt, bnd, slD, List.getElem?_cons_zero, List.getElem?_cons_succ, Mem.cell, Mem.row, cells_own, cells_ro, t3, g1, f250]
            exact key2 _ n (by simp [t3]) (by simp [t2]) (by simp [t7]) hn4
        have s8 := sub8 next
        by_cases e7 : q8 = 7
        · have f7 : ((q8 : Int) == 7) = true := by rw [e7]; rfl
          simp -implicitDefEqProofs (disch := first | assumption | omega | fail) [wkB, retV, stabOk, dC, ev, fillD, pickCells, putAt, bnd, slD, List.getElem?_cons_zero, List.getElem?_cons_succ, Mem.cell, Mem.row, cells_own, cells_ro, f0, f1, f2, rc20_4, g1, rn, f7, s8]
          exact key3 _ (next - 1) (by simp) (by simp [frA_at]) (by simp) (fun _ h => by have := (hno0 h).1; omega)
        · have f7 : ((q8 : Int) == 7) = false := beq_eq_false_iff_ne.2 (by omega)
          simp -implicitDefEqProofs (disch := first | assumption | omega | fail) [wkB, retV, stabOk, dC, ev, fillD, pickCells, putAt, bnd, slD, List.getElem?_cons_zero, List.getElem?_cons_succ, Mem.cell, Mem.row, cells_own, cells_ro, f0, f1, f2, rc20_4, g1, rn, f7]
          exact key3 _ next (by simp) (by simp [frA_at]) (by simp) (fun _ _ => rfl)
end Go.Proofs.YtiapjjgmmiifmaaGreatDoor.Ab

set_option linter.unusedVariables false
set_option linter.unusedSimpArgs false
namespace Go.Proofs.YtiapjjgmmiifmaaGreatDoor.Ab
open Go Go.RowKit
set_option maxHeartbeats 4000000
set_option maxRecDepth 100000
theorem scan_blk {n : UInt8} {d : List UInt8} {crc : Bool} (h : d.length = 128 ∨ d.length = 1024) : scanF (blkL n d crc) crc = (2, n, d) := by
  have hl := blk_len n d crc
  have ht := trail_len d crc
  have htr : 1 ≤ trN crc ∧ trN crc ≤ 2 := by cases crc <;> decide
  rw [scanF_eq crc (by omega)]
  obtain ⟨T, hT⟩ : ∃ T, trailL d crc = T := ⟨_, rfl⟩
  obtain ⟨b, hb⟩ : ∃ b : UInt8, (if d.length = 128 then (1 : UInt8) else 2) = b := ⟨_, rfl⟩
  have hz : bsize b crc = 3 + d.length + trN crc := by
    rcases h with h | h
    · rw [if_pos h] at hb
      subst hb
      unfold bsize
      rw [if_pos rfl, h]
    · rw [if_neg (by omega)] at hb
      subst hb
      unfold bsize
      rw [if_neg (by decide), if_pos rfl, h]
  have hbk : blkL n d crc = b :: n :: (255 - n) :: (d ++ T) := by unfold blkL; rw [hb, hT]
  rw [hbk]
  rw [hbk] at hl
  rw [hT] at ht
  have e0 : (b :: n :: (255 - n) :: (d ++ T)).getD 0 0 = b := rfl
  have e1 : (b :: n :: (255 - n) :: (d ++ T)).getD 1 0 = n := rfl
  have e2 : (b :: n :: (255 - n) :: (d ++ T)).getD 2 0 = 255 - n := rfl
  rw [e0, e1, e2, hz]
  have e3 : 3 + d.length + trN crc - trN crc - 3 = d.length := by omega
  have e4 : 3 + d.length + trN crc - trN crc = d.length + 3 := by omega
  rw [e3, e4]
  have e5 : ((b :: n :: (255 - n) :: (d ++ T)).drop 3).take d.length = d := by simp
  have e6 : ((b :: n :: (255 - n) :: (d ++ T)).drop (d.length + 3)).take (trN crc) = T := by
    rw [show d.length + 3 = 3 + d.length by omega, ← List.drop_drop]
    simp [← ht]
  have e7 : n = 255 - (255 - n) := by
    apply UInt8.toNat_inj.1
    have := n.toNat_lt
    have h1 : (255 : UInt8).toNat = 255 := rfl
    rw [UInt8.toNat_sub, UInt8.toNat_sub, h1]
    omega
  rw [e5, e6, hT]
  rw [if_neg (by omega), if_neg (fun hh => hh.2 e7), if_neg (by omega), if_pos rfl]
theorem put_block {r : Rc} {d : List UInt8} (hov : r.over = false) (hbf : r.buffer = []) (hcl : r.close = true) (h : d.length = 128) (hn : r.number = 1) :
    rPutF r (blkL 1 d r.crc) = ({ r with left := r.wait, buffer := [], data := r.data ++ d, number := 2, blocks := r.blocks + 1, begun := true }, [6]) := by
  have hl := blk_len 1 d r.crc
  unfold rPutF
  rw [if_neg (fun hh => hh.elim (by rw [hov]; simp) (by omega))]
  have hs : ({ r with left := r.wait, buffer := r.buffer ++ blkL 1 d r.crc } : Rc) = { r with left := r.wait, buffer := blkL 1 d r.crc } := by rw [hbf]; rfl
  rw [hs]
  unfold rPut1
  have hf : (blkL 1 d r.crc).getD 0 0 = 1 := by unfold blkL; rw [if_pos h]; rfl
  simp only
  rw [hf, if_neg (fun hh => absurd hh.1 (by decide)), if_neg (fun hh => absurd hh.1 (by decide)), if_neg (fun hh => absurd hh.1 (by decide))]
  unfold scaF
  simp only
  rw [scan_blk (.inl h)]
  simp only
  rw [if_neg (by decide), if_neg (by decide)]
  unfold takeF
  simp only
  rw [if_pos hn.symm]
  unfold finF
  simp only
  rw [if_neg (fun hh => by rw [hcl] at hh; cases hh.1), hn]
  rfl
theorem put_eot {r : Rc} (hov : r.over = false) (hbf : r.buffer = []) (hcl : r.close = true) : rPutF r [4] = ({ r with left := r.wait, buffer := [4], over := true, err := 0 }, [6]) := by
  unfold rPutF
  rw [if_neg (fun hh => hh.elim (by rw [hov]; simp) (by simp))]
  have hs : ({ r with left := r.wait, buffer := r.buffer ++ [4] } : Rc) = { r with left := r.wait, buffer := [4] } := by rw [hbf]; rfl
  rw [hs]
  unfold rPut1
  simp only
  rw [if_pos ⟨rfl, hcl⟩]
/-- A board behind a load, a block and the end. -/
theorem load_all {s : TgS} {k a : Nat} {d : List UInt8} (hk : k = 0 ∨ k = 1) (hd : d.length = 128) (ha : a < 16000) :
    (tPutF (begF s k a) (blkL 1 d (decide (k ≠ 0)))).2 = [6] ∧
    (tPutF (tPutF (begF s k a) (blkL 1 d (decide (k ≠ 0)))).1 [4]).2 = 6 :: proL ∧
    (tPutF (tPutF (begF s k a) (blkL 1 d (decide (k ≠ 0)))).1 [4]).1 = { s with addr := a, tak := .no, mem := wrF s.mem a d } ∧
    (tPutF (begF s k a) (blkL 1 d (decide (k ≠ 0)))).1.reps = s.reps ∧ (tPutF (begF s k a) (blkL 1 d (decide (k ≠ 0)))).1.tak.sz ≤ 1000 := by
  have hb : begF s k a = { s with addr := (a : Int), tak := .plain (rOf s.tr s.wt 1 (decide (k ≠ 0)) true 1) } := by
    unfold begF
    rw [if_neg (by omega)]
  obtain ⟨r, hr⟩ : ∃ r, rOf s.tr s.wt 1 (decide (k ≠ 0)) true 1 = r := ⟨_, rfl⟩
  have hf : r.over = false ∧ r.buffer = [] ∧ r.close = true ∧ r.number = 1 ∧ r.crc = decide (k ≠ 0) ∧ r.data = [] := by subst hr; exact ⟨rfl, rfl, rfl, rfl, rfl, rfl⟩
  obtain ⟨h1, h2, h3, h4, h5, h6⟩ := hf
  rw [hr] at hb
  rw [← h5]
  have p1 := put_block h1 h2 h3 hd h4
  have t1 : tPutF (begF s k a) (blkL 1 d r.crc) = ({ s with addr := (a : Int), tak := .plain { r with left := r.wait, buffer := [], data := r.data ++ d, number := 2, blocks := r.blocks + 1, begun := true } }, [6]) := by
    rw [hb]
    unfold tPutF
    rw [if_neg (by simp [Tak.isNo])]
    simp only [Tak.put, p1]
    unfold ldF
    rw [if_pos (by simp [Tak.over, h1])]
  rw [t1]
  have p2 := put_eot (r := { r with left := r.wait, buffer := [], data := r.data ++ d, number := 2, blocks := r.blocks + 1, begun := true }) h1 rfl h3
  have t2 : tPutF ({ s with addr := (a : Int), tak := .plain { r with left := r.wait, buffer := [], data := r.data ++ d, number := 2, blocks := r.blocks + 1, begun := true } }) [4] = ({ s with addr := (a : Int), tak := .no, mem := wrF s.mem a d }, 6 :: proL) := by
    unfold tPutF
    rw [if_neg (by simp [Tak.isNo])]
    simp only [Tak.put, p2]
    unfold ldF
    rw [if_neg (by simp [Tak.over]), if_pos ⟨by simp [Tak.err], by simp [Tak.data, h6, hd, fitsF]; omega⟩]
    simp [Tak.data, h6]
  exact ⟨rfl, congrArg Prod.snd t2, congrArg Prod.fst t2, rfl, by simp [Tak.sz, h6, hd]⟩
end Go.Proofs.YtiapjjgmmiifmaaGreatDoor.Ab

set_option linter.unusedVariables false
set_option linter.unusedSimpArgs false
namespace Go.Proofs.YtiapjjgmmiifmaaGreatDoor.Ab
open Go Go.RowKit
set_option maxHeartbeats 4000000
set_option maxRecDepth 100000
/-- What a byte of the memory is. -/
def wantB' (d : List UInt8) (a k : Nat) : UInt8 := if a ≤ k ∧ k < a + 128 then d.getD (k - a) 0 else 0
theorem wr_at {d : List UInt8} {a k : Nat} (hd : d.length = 128) (ha : a < 16000) (hk : k < 16384) : (wrF zmem a d).getD k 0 = wantB' d a k := by
  unfold wrF wantB'
  rw [List.getD_eq_getElem?_getD, hd]
  have hz : ∀ j : Nat, (zmem[j]?).getD (0 : UInt8) = 0 := fun j => by
    show ((List.replicate 16384 (0 : UInt8))[j]?).getD 0 = 0
    rw [List.getElem?_replicate]
    split <;> rfl
  by_cases h1 : k < a
  · rw [if_neg (by omega), List.append_assoc, List.getElem?_append_left (by simp [zmem]; omega), List.getElem?_take, if_pos h1]
    exact hz k
  · by_cases h2 : k < a + 128
    · rw [if_pos ⟨by omega, h2⟩, List.append_assoc, List.getElem?_append_right (by simp [zmem]; omega), List.getElem?_append_left (by simp [zmem]; omega), List.getD_eq_getElem?_getD]
      congr 2
      simp [zmem]; omega
    · rw [if_neg (by omega), List.getElem?_append_right (by simp [zmem, hd]; omega), List.getElem?_drop]
      exact hz _
theorem l_Loads {w0 : World} {m : Mem} {va vb : Value} {cs : List Value} {na : Nat} {b : List UInt8} {crc : Bool} (hp : Part L0 m) (ht : Ten w0) (hE : ErrV w0) (ha : SlR m 5 va cs na) (hab : ∀ i, blk va = some i → i < m.next) (haa : 0 < na → ∃ x : Nat, cs[1]? = some (.int .u16 (x : Int)) ∧ x < 65536)
    (hv : SlR m 1 vb (b.map byteV) b.length) (hvb : ∀ i, blk vb = some i → i < m.next) (hb : b.length ≤ 9223372036854775807) :
    AbC Tryz.prog w0 4 [va, vb, .bool crc] m fun u _ => u = .bool true := by
  refine AbC_fn ok4 (by simp) ?_
  simp -implicitDefEqProofs (disch := first | assumption | omega | fail) [rc4, ro4, wkB, retV, stabOk, dC, ev, fillD, pickCells, putAt, bnd, slD, List.getElem?_cons_zero, List.getElem?_cons_succ, Mem.cell, Mem.row, cells_own, cells_ro]
  refine c_awake hp ?_
  have hr : RdV (fun i => i < m.next) m 1 vb (b.map byteV) b.length := ⟨hv, fun i hi => ⟨hvb i hi, hvb i hi⟩⟩
  have hra : RdV (fun i => i < m.next) m 5 va cs na := ⟨ha, fun i hi => ⟨hab i hi, hab i hi⟩⟩
  simp -implicitDefEqProofs (disch := first | assumption | omega | fail) [wkB, retV, stabOk, dC, ev, fillD, pickCells, putAt, bnd, slD, List.getElem?_cons_zero, List.getElem?_cons_succ, Mem.cell, Mem.row, cells_own, cells_ro, rc4_9]
  refine c_tOf (Sep.ofOld hp) fun it H m1 h1 hR1 => ?_
  rw [List.append_nil] at h1
  have hR1' := hR1
  obtain ⟨⟨sp, ol, orr, tv, HT, rfl, hT, hol, hor⟩, hml, hll⟩ := hR1
  have g1 := h1.get 0 rfl
  simp only [tgC, tg0S] at g1
  simp -implicitDefEqProofs (disch := first | assumption | omega | fail) [wkB, retV, stabOk, dC, ev, fillD, pickCells, putAt, bnd, slD, List.getElem?_cons_zero, List.getElem?_cons_succ, Mem.cell, Mem.row, cells_own, cells_ro, g1, rc4_8]
  refine SK_bslS h1 (cs := ([0] : List UInt8).map byteV) (by simp [fillD, pickCells, wkB, retV, stabOk, dC, ev, fillD, pickCells, putAt, bnd, slD, List.getElem?_cons_zero, List.getElem?_cons_succ, Mem.cell, Mem.row, cells_own, cells_ro, byteV]) rfl fun x0 m3 h3 _ _ => ?_
  have h3' := h3.rot1
  simp -implicitDefEqProofs (disch := first | assumption | omega | fail) [wkB, retV, stabOk, dC, ev, fillD, pickCells, putAt, bnd, slD, List.getElem?_cons_zero, List.getElem?_cons_succ, Mem.cell, Mem.row, cells_own, cells_ro]
  refine c_tPut (b := [0]) ht hE h3'.fr hR1' (h3'.rdm (ob := some x0) (List.mem_append_right _ (List.mem_singleton.2 rfl)) rfl (fun e => by cases e) (fun i hi => .inr ⟨_, List.mem_singleton.2 rfl, hi⟩)) (by simp) (by simp [tg0S]) (by simp [tg0S, Tak.sz]) fun o4 H4 m4 h4 hR4 _ => ?_
  have h4 := ((h3'.un h4).sub (List.sublist_append_left _ _)).tl
  obtain ⟨s4, hs4⟩ : ∃ s4 : TgS, s4 = ⟨zmem, 3, 9, false, [], .no, 0, []⟩ := ⟨_, rfl⟩
  have e4 : (tPutF (tg0S 3 9) [0]).1 = s4 := by rw [hs4]; rfl
  rw [e4] at hR4
  clear e4 hR1' g1
  /- behind the address -/
  have key : ∀ (fr : Fr) (a : Nat), a < 16000 → fr 1 = vb → fr 2 = .bool crc → fr 7 = .pointer (some ⟨it, 0, none⟩) → fr 8 = .int .i64 (a : Int) → AbW Tryz.prog w0 rc4_7 (bodyA [.mv (.tmp 6)] fun u _ => u = .bool true) fr m4 := by
    intro fr a la t1 t2 t7 t8
    obtain ⟨k, hk⟩ : ∃ k : Nat, k = if crc then 1 else 0 := ⟨_, rfl⟩
    have hk2 : k = 0 ∨ k = 1 := by rw [hk]; cases crc <;> simp
    have hkc : decide (k ≠ 0) = crc := by rw [hk]; cases crc <;> rfl
    have key6 : ∀ fr : Fr, fr 1 = vb → fr 2 = .bool crc → fr 7 = .pointer (some ⟨it, 0, none⟩) → fr 8 = .int .i64 (a : Int) → fr 9 = .int .i64 (k : Int) → AbW Tryz.prog w0 rc4_6 (bodyA [.mv (.tmp 6)] fun u _ => u = .bool true) fr m4 := by
      intro fr t1 t2 t7 t8 t9
      simp -implicitDefEqProofs (disch := first | assumption | omega | fail) [rc4_6, wkB, retV, stabOk, dC, ev, fillD, pickCells, putAt, bnd, slD, List.getElem?_cons_zero, List.getElem?_cons_succ, Mem.cell, Mem.row, cells_own, cells_ro, t1, t2, t7, t8, t9]
      refine c_Load h4.pt ht (by omega) fun m5 o5 => ?_
      have h5 := h4.old o5
      have hwn : wayN (k : Int) = k := by rcases hk2 with rfl | rfl <;> rfl
      rw [hwn]
      have hll5 : (loadL k a).length ≤ 60 := by
        have l1 := num16 (i := (a : Int)) (by omega)
        have lw : (wayL k).length ≤ 5 := by rcases hk2 with rfl | rfl <;> decide
        simp [loadL, loadW]; omega
      simp -implicitDefEqProofs (disch := first | assumption | omega | fail) [wkB, retV, stabOk, dC, ev, fillD, pickCells, putAt, bnd, slD, List.getElem?_cons_zero, List.getElem?_cons_succ, Mem.cell, Mem.row, cells_own, cells_ro]
      refine SK_s2bS h5 (s := loadL k a) (by simp [wkB, retV, stabOk, dC, ev, fillD, pickCells, putAt, bnd, slD, List.getElem?_cons_zero, List.getElem?_cons_succ, Mem.cell, Mem.row, cells_own, cells_ro]) (by omega) fun x5 m6 h6 _ _ => ?_
      have h6' := h6.rot1
      have hAB := tPut_load (s := s4) (k := k) (a := a) (by omega) (by omega) (by rw [hs4]) (by rw [hs4]) (by rw [hs4])
      simp -implicitDefEqProofs (disch := first | assumption | omega | fail) [wkB, retV, stabOk, dC, ev, fillD, pickCells, putAt, bnd, slD, List.getElem?_cons_zero, List.getElem?_cons_succ, Mem.cell, Mem.row, cells_own, cells_ro, t7]
      refine c_tPut (b := loadL k a) ht hE h6'.fr hR4 (h6'.rdm (ob := some x5) (List.mem_append_right _ (List.mem_singleton.2 rfl)) (by simp) (fun e => by cases e) (fun i hi => .inr ⟨_, List.mem_singleton.2 rfl, hi⟩)) (by omega) (by rw [hs4]; simp; omega) (by rw [hs4]; simp [Tak.sz]) fun o7 H7 m7 h7 hR7 ho7 => ?_
      have h7 := ((h6'.un h7).sub (List.sublist_append_left _ _)).tl
      rw [hAB] at hR7
      have hno7 : (!(begF s4 k (a : Int)).tak.isNo) = true := by unfold begF; simp only; split <;> rfl
      simp -implicitDefEqProofs (disch := first | assumption | omega | fail) [wkB, retV, stabOk, dC, ev, fillD, pickCells, putAt, bnd, slD, List.getElem?_cons_zero, List.getElem?_cons_succ, Mem.cell, Mem.row, cells_own, cells_ro, t7]
      refine c_tLoads h7 hR7 (fun p hp => hp) ?_
      rw [hno7]
      have hcv : cellsV vb = [vb] ∧ oneC vb = true := by
        rcases hv.2 with ⟨_, rfl | rfl⟩ | ⟨i, o, L, rfl, _⟩ <;> exact ⟨rfl, rfl⟩
      simp -implicitDefEqProofs (disch := first | assumption | omega | fail) [wkB, retV, stabOk, dC, ev, fillD, pickCells, putAt, bnd, slD, List.getElem?_cons_zero, List.getElem?_cons_succ, Mem.cell, Mem.row, cells_own, cells_ro, rc4_5, t1, t2, t7, hcv.1]
      refine SK_alS h7 fun x8 m8 h8 _ _ => ?_
      simp -implicitDefEqProofs (disch := first | assumption | omega | fail) [wkB, retV, stabOk, dC, ev, fillD, pickCells, putAt, bnd, slD, List.getElem?_cons_zero, List.getElem?_cons_succ, Mem.cell, Mem.row, cells_own, cells_ro, t1, hcv.1]
      refine SK_stS h8 0 rfl (o := 0) (vs := [.int .u8 4, .int .u8 0, vb, .int .u16 0, .int .u8 0]) (cs' := [.int .u8 4, .int .u8 0, vb, .int .u16 0, .int .u8 0]) (by simp [wkB, retV, stabOk, dC, ev, fillD, pickCells, putAt, bnd, slD, List.getElem?_cons_zero, List.getElem?_cons_succ, Mem.cell, Mem.row, cells_own, cells_ro]) (by simp [wkB, retV, stabOk, dC, ev, fillD, pickCells, putAt, bnd, slD, List.getElem?_cons_zero, List.getElem?_cons_succ, Mem.cell, Mem.row, cells_own, cells_ro]) (by simp) rfl (by simp only [List.all_cons, List.all_nil, hcv.2, Bool.and_true]; rfl) rfl fun m9 h9 _ => ?_
      have g9 := h9.get 0 rfl
      have h10 := h9.tl
      simp -implicitDefEqProofs (disch := first | assumption | omega | fail) [wkB, retV, stabOk, dC, ev, fillD, pickCells, putAt, bnd, slD, List.getElem?_cons_zero, List.getElem?_cons_succ, Mem.cell, Mem.row, cells_own, cells_ro, g9, t2]
      refine c_aPut (op := 4) (no := 0) (at_ := 0) (by_ := 0) (next := 1) h9.pt (hr.sep h10) hb (by omega) (by omega) fun u x m11 o11 hu hub hxl h44 => ?_
      obtain ⟨d, hd, rfl⟩ := h44 rfl rfl
      have h11 := h10.old o11
      have hpr : ∀ i, blk u = some i → i < m11.next ∧ ¬ ids H7 i := fun i hi => by
        rcases hub i hi with ⟨h1, h2⟩ | h1
        · refine ⟨h2, fun hid => ?_⟩
          have := h10.il hid
          omega
        · have hlt := hvb i h1
          refine ⟨Nat.lt_of_lt_of_le hlt h11.n, fun hid => (h11.il hid).2 hlt⟩
      have h12 := h11.prot (fun i => blk u = some i) hpr
      have hru : RdV (fun i => i < m.next ∨ blk u = some i) m11 1 u ((blkL 1 d crc).map byteV) (blkL 1 d crc).length := ⟨hu, fun i hi => ⟨(hpr i hi).1, .inr hi⟩⟩
      clear hu hub hpr h44
      have hla := load_all (s := s4) (k := k) (a := a) (d := d) hk2 hd la
      rw [hkc] at hla
      have hbl := blk_len 1 d crc
      have htr : 1 ≤ trN crc ∧ trN crc ≤ 2 := by cases crc <;> decide
      have hxat : ∀ j, j < 128 → (blkL 1 d crc).getD (3 + j) 0 = d.getD j 0 := fun j hj => by
        rw [List.getD_eq_getElem?_getD, List.getD_eq_getElem?_getD]
        have e9 : (blkL 1 d crc)[3 + j]? = (d ++ trailL d crc)[j]? := by
          unfold blkL
          rw [show 3 + j = j + 1 + 1 + 1 by omega]
          rfl
        rw [e9, List.getElem?_append_left (by omega)]
      generalize blkL 1 d crc = x at *
      simp -implicitDefEqProofs (disch := first | assumption | omega | fail) [wkB, retV, stabOk, dC, ev, fillD, pickCells, putAt, bnd, slD, List.getElem?_cons_zero, List.getElem?_cons_succ, Mem.cell, Mem.row, cells_own, cells_ro, t7]
      refine c_tPut (b := x) ht hE h12 hR7 hru (by omega) (by rw [show (begF s4 k (a : Int)).reps = s4.reps from rfl, hs4]; simp; omega) (by rw [(begF_sz s4 k (a : Int)).1]; omega) fun o13 H13 m13 h13 hR13 ho13 => ?_
      obtain ⟨s13, hs13⟩ : ∃ s13, tPutF (begF s4 k (a : Int)) x = s13 := ⟨_, rfl⟩
      rw [hs13] at hla h13 hR13 ho13 ⊢
      obtain ⟨l1, l2, l3, l4, l5⟩ := hla
      rw [l1] at h13 ho13 ⊢
      have hb13 : bstr m13 (slV o13 1 1) = some (.string ⟨⟨[6]⟩⟩) := SlR.txt (h13.slm (List.mem_cons_self ..) (by simp) ho13).read
      simp -implicitDefEqProofs (disch := first | assumption | omega | fail) [wkB, retV, stabOk, dC, ev, fillD, pickCells, putAt, bnd, slD, List.getElem?_cons_zero, List.getElem?_cons_succ, Mem.cell, Mem.row, cells_own, cells_ro, hb13]
      refine SK_bslS h13.tl (cs := ([4] : List UInt8).map byteV) (by simp [fillD, pickCells, wkB, retV, stabOk, dC, ev, fillD, pickCells, putAt, bnd, slD, List.getElem?_cons_zero, List.getElem?_cons_succ, Mem.cell, Mem.row, cells_own, cells_ro, byteV]) rfl fun x14 m14 h14 _ _ => ?_
      have h14' := h14.rot1
      simp -implicitDefEqProofs (disch := first | assumption | omega | fail) [wkB, retV, stabOk, dC, ev, fillD, pickCells, putAt, bnd, slD, List.getElem?_cons_zero, List.getElem?_cons_succ, Mem.cell, Mem.row, cells_own, cells_ro, t7]
      refine c_tPut (b := [4]) ht hE h14'.fr hR13 (h14'.rdm (ob := some x14) (List.mem_append_right _ (List.mem_singleton.2 rfl)) rfl (fun e => by cases e) (fun i hi => .inr ⟨_, List.mem_singleton.2 rfl, hi⟩)) (by simp) (by rw [l4, hs4]; simp) (by omega) fun o15 H15 m15 h15 hR15 ho15 => ?_
      have h15 := (h14'.un h15).sub (List.sublist_append_left _ _)
      rw [l2] at h15 ho15 ⊢
      rw [l3] at hR15
      have hb15 : bstr m15 (slV o15 (proL.length + 1) 1) = some (.string ⟨⟨6 :: proL⟩⟩) := SlR.txt (h15.slm (List.mem_cons_self ..) (by simp) ho15).read
      have h16 := h15.tl
      have hR15' := hR15
      obtain ⟨⟨sp', ol', or', tv', HT', rfl, hT', hol', hor'⟩, hml', hll'⟩ := hR15
      have g16 := h16.get 0 rfl
      simp only [tgC] at g16
      have f0 : fitsF 0 16384 = true := rfl
      simp -implicitDefEqProofs (disch := first | assumption | omega | fail) [wkB, retV, stabOk, dC, ev, fillD, pickCells, putAt, bnd, slD, List.getElem?_cons_zero, List.getElem?_cons_succ, Mem.cell, Mem.row, cells_own, cells_ro, hb15, t7, g16]
      refine c_sRead h16 1 rfl hml' (fun _ o17 m17 h17 ho17 => ?_) fun hh => by rw [f0] at hh; cases hh
      have e17 : (wrF s4.mem a d).length = 16384 := hml'
      have e18 : ((wrF s4.mem a d).drop (0 : Int).toNat).take (16384 : Int).toNat = wrF s4.mem a d := by
        rw [show (0 : Int).toNat = 0 from rfl, show (16384 : Int).toNat = 16384 from rfl, List.drop_zero, List.take_of_length_le (by omega)]
      simp only at h17
      rw [e18] at h17
      have e19 : (16384 : Int).toNat = 16384 := rfl
      rw [e19] at ho17 ⊢
      have c6 : (!(([6] : List UInt8) == [6])) = false := rfl
      have c7 : ((proL : List UInt8) == [13, 10, 61, 62, 32]) = true := rfl
      simp -implicitDefEqProofs (disch := first | assumption | omega | fail) [wkB, retV, stabOk, dC, ev, fillD, pickCells, putAt, bnd, slD, List.getElem?_cons_zero, List.getElem?_cons_succ, Mem.cell, Mem.row, cells_own, cells_ro, c6, c7, t7]
      refine c_tLoads h17 hR15' (fun p hp => List.mem_cons_of_mem _ hp) ?_
      have hO17 := h17.slO 0 (k := 16384) (sz := 1) rfl (by simp [hml']) ho17
      have hsl17 := hO17.slen
      have hru17 := hru.sep h17
      have hmz : s4.mem = zmem := by rw [hs4]
      simp -implicitDefEqProofs (disch := first | assumption | omega | fail) [wkB, retV, stabOk, dC, ev, fillD, pickCells, putAt, bnd, slD, List.getElem?_cons_zero, List.getElem?_cons_succ, Mem.cell, Mem.row, cells_own, cells_ro, Tak.isNo, rc4_4, hsl17]
      cases o17 with
      | none => exact absurd (ho17 rfl) (by omega)
      | some q =>
        have g17 := h17.get 0 rfl
        rw [hmz] at g17 e17
        have hat : ∀ j, j < 16384 → ((wrF zmem a d).map byteV)[j]? = some (.int .u8 ((wantB' d a j).toNat : Int)) := fun j hj => by
          rw [byte_at (by omega), wr_at hd la hj]; rfl
        generalize (wrF zmem a d).map byteV = C at *
        refine LoopW_of (fun k ts m' => ∃ j, j + k = 16384 ∧ m' = m17 ∧ ts 8 = .int .i64 (a : Int) ∧ ts 11 = u ∧ ts 85 = slV (some q) 16384 1 ∧ ts 86 = .int .i64 16384 ∧ ts 87 = .int .i64 (j : Nat)) 16384 ?_ ?_
        · exact ⟨0, by omega, rfl, by simp [t8], by simp, by simp, by simp, by simp⟩
        · rintro k' ts m' K ⟨j, hj, rfl, t8, t11, t85, t86, t87⟩ hK
          by_cases hjl : j < 16384
          · have hj8 : (j : Int) < 16384 := by omega
            have w1 : IntKind.i64.wrap ((j : Int) + 1) = (j : Int) + 1 := w64 (by omega)
            have hidx : sidx 1 (slV (some q) 16384 1) (.int .i64 (j : Int)) = some (.pointer (some ⟨q, j, none⟩)) := by simpa [slV_some] using sidx_at (b := q) (o := 0) (n := 16384) (c := 1) (j := j) (sz := 1) (k := .i64) hjl
            have hc := hat j hjl
            have wa : IntKind.i64.wrap ((a : Int) + 128) = (a : Int) + 128 := w64 (by omega)
            have nn : ∀ z : UInt8, ((z.toNat : Int) != (z.toNat : Int)) = false := fun z => by simp
            unfold wantB' at hc
            by_cases h1 : a ≤ j
            · have h1' : (a : Int) ≤ (j : Int) := by omega
              by_cases h2 : j < a + 128
              · have h2' : (j : Int) < (a : Int) + 128 := by omega
                rw [if_pos ⟨h1, h2⟩] at hc
                have w3 : IntKind.i64.wrap (3 + (j : Int)) = 3 + (j : Int) := w64 (by omega)
                have w4 : IntKind.i64.wrap (3 + (j : Int) - (a : Int)) = ((3 + (j - a) : Nat) : Int) := by rw [w64 (by omega)]; omega
                obtain ⟨i, o, L, e1, e2, e3, e4, -, -⟩ := hru17.ex (by omega)
                have hcu : L[o + (3 + (j - a))]? = some (byteV (x.getD (3 + (j - a)) 0)) := (e4 _ (by omega)).trans (byte_at (by omega))
                rw [hxat (j - a) (by omega)] at hcu
                simp only [byteV] at hcu
                have hiu : sidx 1 u (.int .i64 ((3 + (j - a) : Nat) : Int)) = some (.pointer (some ⟨i, o + (3 + (j - a)), none⟩)) := by rw [e1]; simpa using sidx_at (b := i) (o := o) (n := x.length) (c := 1) (j := 3 + (j - a)) (sz := 1) (k := .i64) (by omega)
                generalize 3 + (j - a) = z at *
                generalize d.getD (j - a) 0 = y at *
                have ny := nn y
                simp -implicitDefEqProofs (disch := first | assumption | omega | fail) [rc4_2, rc4_1, rc4_0, wkB, retV, stabOk, dC, ev, fillD, pickCells, putAt, bnd, slD, List.getElem?_cons_zero, List.getElem?_cons_succ, Mem.cell, Mem.row, cells_own, cells_ro, t8, t11, t85, t86, t87, hj8, hidx, g17, hc, getL1 hc, h1, h1', wa, h2', w3, w4, hiu, e2, hcu, getL1 hcu, ny, w1]
                exact hK (k' - 1) _ _ (by omega) ⟨j + 1, by omega, rfl, by simp [t8], by simp [t11], by simp [t85], by simp [t86], by simp⟩
              · have h2' : ¬ (j : Int) < (a : Int) + 128 := by omega
                rw [if_neg (fun hh => h2 hh.2)] at hc
                have hc : C[j]? = some (.int .u8 0) := hc
                simp -implicitDefEqProofs (disch := first | assumption | omega | fail) [rc4_2, rc4_1, rc4_0, wkB, retV, stabOk, dC, ev, fillD, pickCells, putAt, bnd, slD, List.getElem?_cons_zero, List.getElem?_cons_succ, Mem.cell, Mem.row, cells_own, cells_ro, t8, t11, t85, t86, t87, hj8, hidx, g17, hc, getL1 hc, h1, h1', wa, h2', w1]
                exact hK (k' - 1) _ _ (by omega) ⟨j + 1, by omega, rfl, by simp [t8], by simp [t11], by simp [t85], by simp [t86], by simp⟩
            · have h1' : ¬ (a : Int) ≤ (j : Int) := by omega
              rw [if_neg (fun hh => h1 hh.1)] at hc
              have hc : C[j]? = some (.int .u8 0) := hc
              simp -implicitDefEqProofs (disch := first | assumption | omega | fail) [rc4_2, rc4_1, rc4_0, wkB, retV, stabOk, dC, ev, fillD, pickCells, putAt, bnd, slD, List.getElem?_cons_zero, List.getElem?_cons_succ, Mem.cell, Mem.row, cells_own, cells_ro, t8, t11, t85, t86, t87, hj8, hidx, g17, hc, getL1 hc, h1, h1', w1]
              exact hK (k' - 1) _ _ (by omega) ⟨j + 1, by omega, rfl, by simp [t8], by simp [t11], by simp [t85], by simp [t86], by simp⟩
          · have hjj : j = 16384 := by omega
            subst hjj
            simp -implicitDefEqProofs (disch := first | assumption | omega | fail) [rc4_2, rc4_3, wkB, retV, stabOk, dC, ev, fillD, pickCells, putAt, bnd, slD, List.getElem?_cons_zero, List.getElem?_cons_succ, Mem.cell, Mem.row, cells_own, cells_ro, t86, t87]
    cases crc with
    | true =>
      simp only [if_true] at hk
      subst hk
      simp -implicitDefEqProofs (disch := first | assumption | omega | fail) [rc4_7, wkB, retV, stabOk, dC, ev, fillD, pickCells, putAt, bnd, slD, List.getElem?_cons_zero, List.getElem?_cons_succ, Mem.cell, Mem.row, cells_own, cells_ro, t2]
      exact key6 _ (by simp [t1]) (by simp [t2]) (by simp [t7]) (by simp [t8]) (by first | rfl | simp)
    | false =>
      simp only [Bool.false_eq_true, if_false] at hk
      subst hk
      simp -implicitDefEqProofs (disch := first | assumption | omega | fail) [rc4_7, wkB, retV, stabOk, dC, ev, fillD, pickCells, putAt, bnd, slD, List.getElem?_cons_zero, List.getElem?_cons_succ, Mem.cell, Mem.row, cells_own, cells_ro, t2]
      exact key6 _ (by simp [t1]) (by simp [t2]) (by simp [t7]) (by simp [t8]) (by first | rfl | simp)
  have hra4 := hra.sep h4
  have hsl := hra4.sl.slen
  by_cases hn : 0 < na
  · have hn8 : (0 : Int) < (na : Int) := by omega
    obtain ⟨i, o, L, e1, e2, e3, -, e5⟩ := hra4.sl.at hn
    obtain ⟨x, hx, hxl⟩ := haa hn
    have hc := e5 1 (by omega)
    rw [Nat.zero_mul, Nat.add_zero, Nat.zero_add, hx] at hc
    have hidx : sidx 5 va (.int .i64 0) = some (.pointer (some ⟨i, o, none⟩)) := by rw [e1]; simpa using sidx_at (b := i) (o := o) (n := na) (c := 5) (j := 0) (sz := 5) (k := .i64) hn
    have wx : IntKind.i64.wrap (x : Int) = (x : Int) := w64 (by omega)
    have r3 : dBin .rem (.int .i64 (x : Int)) (.int .i64 16000) = some (.int .i64 ((x % 16000 : Nat) : Int)) := by
      rw [dBin_rem (by omega), Int.tmod_eq_emod_of_nonneg (by omega)]; rfl
    have lc : x % 16000 < 16000 := Nat.mod_lt _ (by omega)
    generalize x % 16000 = a at *
    simp -implicitDefEqProofs (disch := first | assumption | omega | fail) [wkB, retV, stabOk, dC, ev, fillD, pickCells, putAt, bnd, slD, List.getElem?_cons_zero, List.getElem?_cons_succ, Mem.cell, Mem.row, cells_own, cells_ro, hsl, hn, hn8, hidx, e2, hc, getL1 hc, wx, r3]
    exact key _ a lc (by simp [frA_at]) (by simp [frA_at]) (by simp) (by simp)
  · have hn8 : ¬ (0 : Int) < (na : Int) := by omega
    simp -implicitDefEqProofs (disch := first | assumption | omega | fail) [wkB, retV, stabOk, dC, ev, fillD, pickCells, putAt, bnd, slD, List.getElem?_cons_zero, List.getElem?_cons_succ, Mem.cell, Mem.row, cells_own, cells_ro, hsl, hn, hn8]
    exact key _ 0 (by omega) (by simp [frA_at]) (by simp [frA_at]) (by simp) (by simp)
def adC (x : Value × Int × Int × Int × Int) : List Value := [x.1, .int .u16 x.2.1, .int .u16 x.2.2.1, .int .u32 x.2.2.2.1, .int .u8 x.2.2.2.2]
theorem absT_ads {m : Mem} {td : TD} {v : Value} (h : AbsT m td [v]) (hs : Fits (.sl (.recd [.sl (.int .u8), .int .u16, .int .u16, .int .u32, .int .u8])) td) :
    ∃ xs : List (Value × Int × Int × Int × Int), SlR m 5 v (xs.flatMap adC) xs.length ∧ (∀ x ∈ xs, 0 ≤ x.2.1 ∧ x.2.1 ≤ 65535) ∧ ∀ b, blk v = some b → b < m.next := by
  obtain ⟨l, xs, rfl, h1, h2, h3⟩ := absT_slice (f := adC) (z := 5) (R := fun d x => 0 ≤ x.2.1 ∧ x.2.1 ≤ 65535) (fun _ => rfl) (fun d c hf ha => by
    obtain ⟨l, rfl, hl, hfl⟩ := absT_recd ha hf
    obtain ⟨d1, r1, c1, e1, rfl, rfl, t1, f1, hl, hfl⟩ := absTs_cons hl hfl
    obtain ⟨d2, r2, c2, e2, rfl, rfl, t2, f2, hl, hfl⟩ := absTs_cons hl hfl
    obtain ⟨d3, r3, c3, e3, rfl, rfl, t3, f3, hl, hfl⟩ := absTs_cons hl hfl
    obtain ⟨d4, r4, c4, e4, rfl, rfl, t4, f4, hl, hfl⟩ := absTs_cons hl hfl
    obtain ⟨d5, r5, c5, e5, rfl, rfl, t5, f5, hl, hfl⟩ := absTs_cons hl hfl
    obtain ⟨rfl, rfl⟩ := absTs_nil hl hfl
    obtain ⟨v1, rfl⟩ := t1.one f1 (fun _ h => by cases h)
    obtain ⟨n2, rfl, rfl, w2⟩ := absT_int t2 f2
    obtain ⟨n3, rfl, rfl, w3⟩ := absT_int t3 f3
    obtain ⟨n4, rfl, rfl, w4⟩ := absT_int t4 f4
    obtain ⟨n5, rfl, rfl, w5⟩ := absT_int t5 f5
    exact ⟨(v1, n2, n3, n4, n5), rfl, wf_u16 w2⟩) h hs
  exact ⟨xs, h1, fun x hx => by obtain ⟨_, _, hr⟩ := h2.right x hx; exact hr, h3⟩
theorem l_LoadsI {w0 : World} {m : Mem} {va vb : Value} {xs : List (Value × Int × Int × Int × Int)} {b : List UInt8} {crc : Bool} (hp : Part L0 m) (ht : Ten w0) (hE : ErrV w0) (ha : SlR m 5 va (xs.flatMap adC) xs.length) (hx : ∀ x ∈ xs, 0 ≤ x.2.1 ∧ x.2.1 ≤ 65535) (hab : ∀ i, blk va = some i → i < m.next)
    (hv : SlR m 1 vb (b.map byteV) b.length) (hvb : ∀ i, blk vb = some i → i < m.next) (hb : b.length ≤ maxLen) :
    AbC Tryz.prog w0 4 [va, vb, .bool crc] m fun u _ => u = .bool true := by
  refine l_Loads hp ht hE ha hab (fun h0 => ?_) hv hvb (by unfold maxLen at hb; omega)
  cases xs with
  | nil => simp at h0
  | cons x r =>
    have := hx x (by simp)
    refine ⟨x.2.1.toNat, ?_, by omega⟩
    show some (Value.int .u16 x.2.1) = _
    rw [Int.toNat_of_nonneg this.1]
end Go.Proofs.YtiapjjgmmiifmaaGreatDoor.Ab

namespace Go.Proofs.YtiapjjgmmiifmaaGreatDoor.targetLoads
open Go Go.ChangeShapes Go.WideShapes Go.ChangeAt Go.RowKit Go.Proofs.YtiapjjgmmiifmaaGreatDoor.Ab
set_option linter.unusedVariables false
theorem own : ownKnob Tryz.prog.godebug = none := by kernel_rfl
theorem laidOut : laidOutB Tryz.prog = true := by kernel_rfl
set_option maxRecDepth 100000 in
theorem contract (H : Type) (enc : TypeId × Value → H) (W : World) (base : Nat) (args : Array Value) (ds gs : List (DataW H)) (before : List MemPlace)
    (hval : ∀ (j : Nat) t v, Tryz.f4.params[j]? = some t → args[j]? = some v → Value.okWide Tryz.prog W .any base t v)
    (hW : DataW.Whole enc Tryz.prog Tryz.f4.params.toList Rows.targetLoadsSpec.vars false W args.toList ds gs before) (hL : laidMetH Tryz.prog Rows.targetLoadsRow.laid W) :
    Calls Tryz.prog 4 args W fun e W' => ∃ v, e = .returned v ∧ Rows.targetLoadsSpec.post enc Tryz.prog Tryz.f4 false true false false W args v W' := by
  have hW' := hW
  have hL' : laidMet Tryz.prog Rows.targetLoadsRow.laid W := hL
  obtain ⟨p, q, hA0, hV, rfl, hfz, hnd⟩ := hW
  have hA : DataW.TrodAll enc Tryz.prog W 0 (fun _ => true) true Tryz.f4.params.toList args.toList ds p := hA0
  rw [Tryz.params4] at hA hval
  obtain ⟨v0, vs0, d0, ds0, p0, q0, hargs, rfl, rfl, h0, r0⟩ := trodAll_cons hA
  obtain ⟨v1, vs1, d1, ds1, p1, q1, rfl, rfl, rfl, h1, r1⟩ := trodAll_cons r0
  obtain ⟨v2, vs2, d2, ds2, p2, q2, rfl, rfl, rfl, h2, r2⟩ := trodAll_cons r1
  obtain ⟨rfl, rfl, rfl⟩ := trodAll_nil r2
  obtain rfl : args = #[v0, v1, v2] := by cases args; simp_all
  obtain ⟨rfl, rfl⟩ := trodVars_none hV
  obtain ⟨a0, len0, cap0, rfl⟩ := okWide_slice Tryz.underlying47 (hval 0 47 v0 rfl rfl)
  have lt0 : ∀ x ∈ p0, x.block < W.heap.size := by obtain ⟨m, hm⟩ := h0; exact DataW.trod_lt m _ _ _ hm
  obtain ⟨a1, len1, cap1, rfl⟩ := okWide_slice Tryz.underlying23 (hval 1 23 v1 rfl rfl)
  have lt1 : ∀ x ∈ p1, x.block < W.heap.size := by obtain ⟨m, hm⟩ := h1; exact DataW.trod_lt m _ _ _ hm
  obtain ⟨a2, rfl⟩ := okWide_bool Tryz.underlying4 (hval 2 4 v2 rfl rfl)
  have lt2 : ∀ x ∈ p2, x.block < W.heap.size := by obtain ⟨m, hm⟩ := h2; exact DataW.trod_lt m _ _ _ hm
  have s : St Tryz.prog W (G0 Tryz.prog) (toMem L0) W := St.laid globals_size L0_get laid_ok (laidIn hL' (List.mem_of_getElem? (i := 0) rfl) (List.mem_of_getElem? (i := 1) rfl) (List.mem_of_getElem? (i := 2) rfl))
  have hp : Part L0 (toMem L0) := Part.of L0_part (Nat.le_refl _) fun _ _ => rfl
  obtain ⟨G0, m0, x0, t0, g0, s0, u0, b0, f0, k0⟩ := arg_one (k := 5) (s := (.sl (.recd [.sl (.int .u8), .int .u16, .int .u16, .int .u32, .int .u8]))) (by kernel_rfl) h0 rfl s
  have hp := g0.part hp
  obtain ⟨G1, m1, x1, t1, g1, s1, u1, b1, f1, k1⟩ := arg_one (k := 5) (s := (.sl (.int .u8))) (by kernel_rfl) h1 rfl s0
  have hp := g1.part hp
  have b0 := b0.mono g1.2.1 g1.2.2
  have u0 := u0.mono g1.1
  obtain ⟨G2, m2, x2, t2, g2, s2, u2, b2, f2, k2⟩ := arg_one (k := 5) (s := .bool) (by kernel_rfl) h2 rfl s1
  have hp := g2.part hp
  have b0 := b0.mono g2.2.1 g2.2.2
  have u0 := u0.mono g2.1
  have b1 := b1.mono g2.2.1 g2.2.2
  have u1 := u1.mono g2.1
  refine (AbC_true s2 (.cons _ _ _ _ u0 (.cons _ _ _ _ u1 (.cons _ _ _ _ u2 .nil))) ((by obtain ⟨xs, c0, e0, z0⟩ := absT_ads b0 f0; obtain ⟨bs, c1, d1, l1⟩ := absT_bys b1 f1; obtain ⟨bb, hx2, -⟩ := absT_bool b2 f2; cases hx2; exact l_LoadsI hp (ten_of hL' (List.mem_of_getElem? (i := 2) rfl)) (errV_of hL' (List.mem_of_getElem? (i := 5) rfl) (List.mem_of_getElem? (i := 4) rfl)) c0 e0 z0 c1 d1 (sl_max c1 u1))) (by kernel_rfl)).mono fun e W' ⟨he, bel⟩ => ?_
  subst he
  exact ⟨_, rfl, _, _, _, [], _, [], hW', trodAll_mk1 (shut_bool Tryz.underlying4 _), (trodAll_cons_mk (Below.trod laidOut (by kernel_rfl) (of_decide_eq_true (by kernel_rfl)) h0 bel lt0) (trodAll_cons_mk (Below.trod laidOut (by kernel_rfl) (of_decide_eq_true (by kernel_rfl)) h1 bel lt1) (trodAll_cons_mk (Below.trod laidOut (by kernel_rfl) (of_decide_eq_true (by kernel_rfl)) h2 bel lt2) trodAll_mk0))), rfl, bel.frame _, fun h => by cases h⟩
noncomputable def laidWorld (os : Os) : World :=
  let N := (World.settled Tryz.prog os).heap.size
  { World.holding Tryz.prog os ⟨#[.cells #[.string ⟨#[118, 97, 108, 117, 101, 32, 111, 117, 116, 32, 111, 102, 32, 114, 97, 110, 103, 101]⟩] 190, .cells #[.string ⟨#[105, 110, 118, 97, 108, 105, 100, 32, 115, 121, 110, 116, 97, 120]⟩] 190], #[], []⟩ with heap := ((((((((World.holding Tryz.prog os ⟨#[.cells #[.string ⟨#[118, 97, 108, 117, 101, 32, 111, 117, 116, 32, 111, 102, 32, 114, 97, 110, 103, 101]⟩] 190, .cells #[.string ⟨#[105, 110, 118, 97, 108, 105, 100, 32, 115, 121, 110, 116, 97, 120]⟩] 190], #[], []⟩).heap.modify 1 fun | .cells _ t frozen => .cells ⟨e32⟩ t frozen | o => o).modify 2 fun | .cells _ t frozen => .cells ⟨e64⟩ t frozen | o => o).modify 0 fun | .cells _ t frozen => .cells ⟨e10⟩ t frozen | o => o).modify 5 fun | .cells _ t frozen => .cells #[.iface 188 (.pointer (some ⟨N, 0, none⟩))] t frozen | o => o).modify 4 fun | .cells _ t frozen => .cells #[.iface 188 (.pointer (some ⟨N + 1, 0, none⟩))] t frozen | o => o).modify 6 fun | .cells _ t frozen => .cells ⟨Go.Pinned.utf8FirstZ.map fun (n : Nat) => Value.int .u8 (n : Int)⟩ t frozen | o => o).modify 7 fun | .cells _ t frozen => .cells ⟨([128, 191, 160, 191, 128, 159, 144, 191, 128, 143] ++ List.replicate 22 0 : List Int).map fun (n : Int) => Value.int .u8 n⟩ t frozen | o => o) }
theorem laid_met (os : Os) : laidMet Tryz.prog Rows.targetLoadsRow.laid ((laidWorld os).forCall (fun _ _ => 0) ⟨#[], #[(.slice none 0 0 : Value), (.slice none 0 0 : Value), (.bool false : Value)], []⟩).memory :=
  laidMet_of_run' 8 (by kernel_rfl) (by kernel_rfl)
theorem reads (os : Os) {H : Type} (enc : TypeId × Value → H) : ∃ places, DataW.whole enc Tryz.prog ((laidWorld os).forCall (fun _ _ => 0) ⟨#[], #[(.slice none 0 0 : Value), (.slice none 0 0 : Value), (.bool false : Value)], []⟩).memory Tryz.f4.params.toList Rows.targetLoadsSpec.vars false [(.slice none 0 0 : Value), (.slice none 0 0 : Value), (.bool false : Value)] 8 = some ([.nil, .nil, .lit (.bool false)], [], places) :=
  ⟨[], by kernel_rfl⟩
set_option maxRecDepth 100000 in
theorem lifted (os : Os) (started : os.Started) (H : Type) (enc : TypeId × Value → H) (F : Stop.Interp) :
    ReturnsInHanded {} Tryz.checked os 4 .any ((OpenSpec.ofChange Rows.targetLoadsSpec).preRow enc Tryz.prog Tryz.f4 Rows.targetLoadsRow.domain false Rows.targetLoadsRow.laid) (((OpenSpec.ofChange Rows.targetLoadsSpec).at F).post enc Tryz.prog Tryz.f4 false true false false) := by
  obtain ⟨places, hx⟩ := reads os enc
  refine returnsInHanded_of_row (C := Tryz.checked) (s := (OpenSpec.ofChange Rows.targetLoadsSpec)) own started (by kernel_rfl) Tryz.func4
    (witness_row_atRef (enc := enc) (C := Tryz.checked) false (laidWorld os) #[(.slice none 0 0 : Value), (.slice none 0 0 : Value), (.bool false : Value)] rfl (by kernel_rfl) (by kernel_rfl) (by kernel_rfl)
      (OpenSpec.preRow_of_cond 8 hx (by kernel_rfl) (fun k hk => by cases hk) (by kernel_rfl) (laid_met os))) ?_
  intro W base args ds gs before hval hW _ _ _ hL _ _
  exact contract H enc W base args ds gs before hval hW hL
theorem over : Rows.TargetLoadsSaid :=
  OpenClaim.holds_of_cond 4 Tryz.f4 rfl rfl rfl rfl rfl rfl rfl ⟨rfl, rfl, rfl, rfl, rfl⟩ rfl rfl rfl rfl rfl (by kernel_rfl) Tryz.func4 (by kernel_rfl)
    (of_decide_eq_true (by kernel_rfl)) (by unfold Func.isWrapper; first | (rw [if_pos (by decide +kernel)]; kernel_rfl) | (rw [if_neg (by decide +kernel)]; exact ⟨rfl, rfl⟩))
    (fun os started H enc _ F => by rw [OpenClaim.pre_eq_preRow]; exact lifted os started H enc F)
theorem plain (f : FuncId) (fn : Func) (hf : Tryz.pinned.checked.prog.funcNamed "lifeline/lifelinelaw20.TargetLoads" = some f) (hfn : Tryz.pinned.checked.prog.funcs[f]? = some fn) :
    true = Tryz.pinned.checked.prog.looks [] ∧ ∀ (j : Nat) t, fn.params[j]? = some t → Tryz.pinned.checked.prog.wantsStandIn t = false := by
  obtain rfl : f = 4 := Option.some.inj ((show Tryz.prog.funcNamed "lifeline/lifelinelaw20.TargetLoads" = some 4 by kernel_rfl).symm.trans hf) |>.symm
  obtain rfl : fn = Tryz.f4 := (Option.some.inj (Tryz.func4.symm.trans hfn)).symm
  refine ⟨by kernel_rfl, fun j t ht => ?_⟩
  rw [Tryz.params4] at ht
  have hall : ∀ t ∈ [47, 23, 4], Tryz.prog.wantsStandIn t = false := by
    intro t ht
    simp only [List.mem_cons, List.mem_nil_iff, or_false] at ht
    rcases ht with rfl | rfl | rfl <;> kernel_rfl
  exact hall t (by simpa using Array.mem_of_getElem? ht)
theorem proved : Rows.TargetLoadsCardSaid :=
  Claim7.holds_tied_plain_at .later [] _ _ _ _ over (fun _ h => by cases h) (by kernel_rfl) (fun _ h => by cases h) targetLoads_row_tie rfl ⟨rfl, rfl⟩ (by kernel_rfl) rfl plain (by kernel_rfl)
#print axioms proved
end Go.Proofs.YtiapjjgmmiifmaaGreatDoor.targetLoads
