/- Parts of a proof, put together: Blocks as bytes: block.Size, block.Scan. -/
import Derived.Test.YtiapjjgmmiifmaaGreatDoorKTt3
import Derived.Shelf.Strings.Trim
import Derived.Shelf.Strconv.Itoa1
import Derived.Shelf.LaysM
import Derived.Shelf.Strconv.Itoa2
import Derived.Shelf.Strconv.Itoa3
import Derived.Shelf.LaysC
import Derived.Shelf.Strconv.ToError
import Derived.Shelf.Strconv.ToErrorRange
import Derived.Shelf.Strings.Search1
import Derived.Shelf.Strings.Search2
import Derived.Shelf.Strings.Search3
import Derived.Shelf.Strings.Cut
import Derived.Shelf.Strings.Count
import Derived.Shelf.Strings.Split
import Derived.Test.YtiapjjgmmiifmaaGreatDoorProg
import Derived.Lib.AppendIntMem
import Derived.Lib.SplitLaws
import Derived.Lib.TrimByte
import Derived.Lib.IndexBytes
set_option linter.unusedVariables false
set_option linter.unusedSimpArgs false
namespace Go.Proofs.YtiapjjgmmiifmaaGreatDoor.Ab
open Go Go.RowKit
set_option maxHeartbeats 4000000
set_option maxRecDepth 100000
theorem b8 (c : UInt8) (k : Nat) (hk : k < 256) : ((c.toNat : Int) == (k : Int)) = decide (c = UInt8.ofNat k) := by
  by_cases h : c = UInt8.ofNat k
  · subst h
    have : (UInt8.ofNat k).toNat = k := by simp; omega
    simp [this]
  · have : c.toNat ≠ k := fun e => h (by rw [← e]; simp)
    simp [h]; omega
theorem c8 (c d : UInt8) : ((c.toNat : Int) == (d.toNat : Int)) = decide (c = d) := by
  have := b8 c d.toNat d.toNat_lt
  simpa using this
theorem c8n (c d : UInt8) : ((c.toNat : Int) != (d.toNat : Int)) = decide (c ≠ d) := by
  rw [bne, c8]; simp
def bsize (c : UInt8) (crc : Bool) : Nat := if c = 1 then 131 + trN crc else if c = 2 then 1027 + trN crc else 0
theorem c_Size {w0 : World} {m : Mem} {c : UInt8} {crc : Bool} {Q : Value → Mem → Prop} (hq : Q (.int .i64 (bsize c crc : Nat)) m) : AbC Tryz.prog w0 75 [.int .u8 (c.toNat : Int), .bool crc] m Q := by
  refine AbC_fn ok75 (by simp) ?_
  have e1 : ((c.toNat : Int) == 1) = decide (c = 1) := b8 c 1 (by omega)
  have e2 : ((c.toNat : Int) == 2) = decide (c = 2) := b8 c 2 (by omega)
  unfold bsize at hq
  by_cases h1 : c = 1
  · rw [if_pos h1] at hq
    cases crc
    all_goals
      simp -implicitDefEqProofs (disch := first | assumption | (simp only [wnA]; done) | (simp only [wnA]; omega) | omega | fail) [rc75, ro75, rc75_1, rc75_0, wkA, retV, stabOk, dC, ev, fillD, pickCells, putAt, bnd, slD, List.getElem?_cons_zero, List.getElem?_cons_succ, dR_sl, Mem.cell, Mem.row, wmA, e1, h1, w64]
      exact hq
  · rw [if_neg h1] at hq
    by_cases h2 : c = 2
    · rw [if_pos h2] at hq
      cases crc
      all_goals
        simp -implicitDefEqProofs (disch := first | assumption | (simp only [wnA]; done) | (simp only [wnA]; omega) | omega | fail) [rc75, ro75, rc75_1, rc75_0, wkA, retV, stabOk, dC, ev, fillD, pickCells, putAt, bnd, slD, List.getElem?_cons_zero, List.getElem?_cons_succ, dR_sl, Mem.cell, Mem.row, wmA, e1, h1, e2, h2, w64]
        exact hq
    · rw [if_neg h2] at hq
      simp -implicitDefEqProofs (disch := first | assumption | (simp only [wnA]; done) | (simp only [wnA]; omega) | omega | fail) [rc75, ro75, wkA, retV, stabOk, dC, ev, fillD, pickCells, putAt, bnd, slD, List.getElem?_cons_zero, List.getElem?_cons_succ, dR_sl, Mem.cell, Mem.row, wmA, e1, h1, e2, h2]
      exact hq
noncomputable def scanF (b : List UInt8) (crc : Bool) : Nat × UInt8 × List UInt8 := match b with
  | [] => (0, 0, [])
  | c :: _ => if bsize c crc = 0 then (1, 0, []) else if 2 < b.length ∧ b.getD 1 0 ≠ 255 - b.getD 2 0 then (1, 0, []) else if b.length < bsize c crc then (0, 0, []) else
    if trailL ((b.drop 3).take (bsize c crc - trN crc - 3)) crc = (b.drop (bsize c crc - trN crc)).take (trN crc) then (2, b.getD 1 0, (b.drop 3).take (bsize c crc - trN crc - 3)) else (1, 0, [])
theorem bsize_cases (c : UInt8) (crc : Bool) : bsize c crc = 0 ∨ bsize c crc = 131 + trN crc ∨ bsize c crc = 1027 + trN crc := by
  unfold bsize
  split
  · exact .inr (.inl rfl)
  · split
    · exact .inr (.inr rfl)
    · exact .inl rfl
theorem scanF_len (b : List UInt8) (crc : Bool) : (scanF b crc).2.2.length ≤ 1024 ∧ ((scanF b crc).1 = 2 → (scanF b crc).2.2.length = 128 ∨ (scanF b crc).2.2.length = 1024) := by
  unfold scanF
  split
  · simp
  · rename_i c r
    split
    · simp
    · split
      · simp
      · split
        · simp
        · split
          · have := bsize_cases c crc
            simp only [List.length_take, List.length_drop]
            refine ⟨?_, fun _ => ?_⟩ <;> omega
          · simp
theorem scanF_st (b : List UInt8) (crc : Bool) : (scanF b crc).1 = 0 ∨ (scanF b crc).1 = 1 ∨ (scanF b crc).1 = 2 := by
  unfold scanF
  split
  · simp
  · split
    · simp
    · split
      · simp
      · split
        · simp
        · split <;> simp
/-- Where the cells of a slice that is read lie. -/
theorem RdV.ex {X : Nat → Prop} {m : Mem} {n : Nat} {v : Value} {cs : List Value} (h : RdV X m 1 v cs n) (hn : 0 < n) : ∃ i o L, v = .slice (some ⟨i, o, none⟩) n 1 ∧ (m.get i).cells? = some L ∧ o + n ≤ L.length ∧ (∀ k, k < n → L[o + k]? = cs[k]?) ∧ i < m.next ∧ X i := by
  obtain ⟨i, o, L, rfl, h2, h3, -, h5⟩ := h.sl.at hn
  obtain ⟨_, h6⟩ := h.sl
  rcases h6 with ⟨h7, _⟩ | ⟨i', o', L', h8, h9, h10, h11⟩
  · omega
  · cases h8
    rw [h2] at h9
    cases h9
    have hb := h.bl i rfl
    exact ⟨i, o, L, rfl, h2, by omega, fun k hk => by rw [← h11, Nat.mul_one, List.getElem?_take, if_pos hk, List.getElem?_drop], hb.1, hb.2⟩
theorem byte_at {b : List UInt8} {k : Nat} (hk : k < b.length) : (b.map byteV)[k]? = some (byteV (b.getD k 0)) := by
  rw [List.getElem?_map, List.getElem?_eq_getElem hk, List.getD_eq_getElem?_getD, List.getElem?_eq_getElem hk]; rfl
theorem SlR.btw {m : Mem} {n : Nat} {v : Value} {cs : List Value} (h : SlR m 1 v cs n) {a b : Nat} (hab : a ≤ b) (hb : b ≤ n) : ∃ v', slW 1 v (some (.int .i64 (a : Nat))) (some (.int .i64 (b : Nat))) = some v' ∧ SlR m 1 v' ((cs.drop a).take (b - a)) (b - a) ∧ (∀ k, blk v' = some k → blk v = some k) := by
  obtain ⟨h1, ⟨rfl, h2⟩ | ⟨i, o, L, rfl, h2, h3, h4⟩⟩ := h
  · have hb0 : b = 0 := by omega
    have ha0 : a = 0 := by omega
    subst hb0 ha0
    rcases h2 with rfl | rfl
    · exact ⟨.slice none 0 0, by simp [slW, dR, ev, bnd], ⟨by simp, .inl ⟨rfl, .inl rfl⟩⟩, fun b hb => hb⟩
    · exact ⟨.slice (some ⟨0, 0, some 0⟩) 0 0, by simp [slW, dR, ev, bnd], ⟨by simp, .inl ⟨rfl, .inr rfl⟩⟩, fun b hb => hb⟩
  · rw [Nat.mul_one] at h1 h3 h4
    by_cases h0 : a = 0
    · subst h0
      refine ⟨.slice (some ⟨i, o, none⟩) b 1, by simp [slW, dR, ev, bnd, slD, hb], ⟨by simp [h1]; omega, .inr ⟨i, o, L, by simp, h2, by omega, ?_⟩⟩, fun b hb => hb⟩
      rw [← h4, List.drop_zero, List.take_take]; congr 1; omega
    · by_cases hn : a = b
      · subst hn
        refine ⟨.slice (some ⟨0, 0, some 0⟩) 0 0, by simp [slW, dR, ev, bnd, slD, h0, hb], ⟨by simp, .inl ⟨by omega, .inr rfl⟩⟩, fun b hb => by simp [blk] at hb⟩
      · refine ⟨.slice (some ⟨i, o + a, none⟩) (b - a) 1, by simp [slW, dR, ev, bnd, slD, h0, hn, hb, hab], ⟨by simp [h1]; omega, .inr ⟨i, o + a, L, rfl, h2, by omega, ?_⟩⟩, fun b hb => hb⟩
        rw [← h4, List.drop_take, List.take_take, List.drop_drop]; congr 1; omega
theorem scanF_eq {b : List UInt8} (crc : Bool) (hb : 0 < b.length) : scanF b crc = (if bsize (b.getD 0 0) crc = 0 then (1, 0, []) else if 2 < b.length ∧ b.getD 1 0 ≠ 255 - b.getD 2 0 then (1, 0, []) else if b.length < bsize (b.getD 0 0) crc then (0, 0, []) else
    if trailL ((b.drop 3).take (bsize (b.getD 0 0) crc - trN crc - 3)) crc = (b.drop (bsize (b.getD 0 0) crc - trN crc)).take (trN crc) then (2, b.getD 1 0, (b.drop 3).take (bsize (b.getD 0 0) crc - trN crc - 3)) else (1, 0, [])) := by
  cases b with
  | nil => simp at hb
  | cons c r => rfl
theorem c_Scan {w0 : World} {X : Nat → Prop} {m : Mem} {v : Value} {b : List UInt8} {crc : Bool} {Q : Value → Mem → Prop} (hp : Part L0 m) (hr : RdV X m 1 v (b.map byteV) b.length) (hL : b.length ≤ 140737488355328)
    (hq : ∀ ob m', Old m m' → (∀ i, ob = some i → m.next ≤ i ∧ i < m'.next ∧ m'.get i = .own ((scanF b crc).2.2.map byteV) 5) → (ob = none → (scanF b crc).2.2 = []) →
      Q (.tuple ⟨[.agg ⟨[.int .u8 ((scanF b crc).2.1.toNat : Int), slV ob (scanF b crc).2.2.length 1]⟩, .int .i64 ((scanF b crc).1 : Nat)]⟩) m') :
    AbC Tryz.prog w0 56 [v, .bool crc] m Q := by
  refine AbC_fn ok56 (by simp) ?_
  have hsl := hr.sl.slen
  have hrr := hr.o
  simp -implicitDefEqProofs (disch := first | assumption | (simp only [wnA]; done) | (simp only [wnA]; omega) | omega | fail) [rc56, ro56, wkA, retV, stabOk, dC, ev, fillD, pickCells, putAt, bnd, slD, List.getElem?_cons_zero, List.getElem?_cons_succ, dR_sl, Mem.cell, Mem.row, wmA]
  have h1 := (Sep.ofOld hp).push (.own [.int .u8 0, .slice none 0 0] 90)
  obtain ⟨m1, hm1⟩ : ∃ m1, m.push (.own [.int .u8 0, .slice none 0 0] 90) = m1 := ⟨_, rfl⟩
  rw [hm1] at h1 ⊢
  clear hm1
  refine JumpW_of (fun x k ts m' => scanF b crc = (if x then 1 else 0, 0, []) ∧ Sep m (fun i => i < m.next) m' [(some m.next, .own [.int .u8 0, .slice none 0 0] 90)] ∧ ts 4 = .pointer (some ⟨m.next, 0, none⟩)) (fun J hJ => ?_) ?_ ?_
  · simp -implicitDefEqProofs (disch := first | assumption | (simp only [wnA]; done) | (simp only [wnA]; omega) | omega | fail) [wkA, retV, stabOk, dC, ev, fillD, pickCells, putAt, bnd, slD, List.getElem?_cons_zero, List.getElem?_cons_succ, dR_sl, Mem.cell, Mem.row, wmA]
    have h2 := h1.push (.own [.int .u8 0, .slice none 0 0] 90)
    obtain ⟨m2, hm2⟩ : ∃ m2, m1.push (.own [.int .u8 0, .slice none 0 0] 90) = m2 := ⟨_, rfl⟩
    obtain ⟨B, hB⟩ : ∃ B, m1.next = B := ⟨_, rfl⟩
    rw [hm2, hB] at h2
    rw [hm2, hB]
    clear hm2 hB
    by_cases hb0 : b.length = 0
    · have hb : b = [] := List.length_eq_zero_iff.1 hb0
      subst hb
      simp -implicitDefEqProofs (disch := first | assumption | (simp only [wnA]; done) | (simp only [wnA]; omega) | omega | fail) [wkA, retV, stabOk, dC, ev, fillD, pickCells, putAt, bnd, slD, List.getElem?_cons_zero, List.getElem?_cons_succ, dR_sl, Mem.cell, Mem.row, wmA, hsl, thenA_goto]
      exact hJ false 0 _ _ ⟨by simp [scanF], h2.tl, by simp⟩
    · have hn0 : 0 < b.length := by omega
      have hs0 := scanF_eq crc hn0
      obtain ⟨i, o, L, e1, e20, e3, e4, e5, -⟩ := hrr.ex hn0
      have e2 : (m2.get i).cells? = some L := by rw [h2.k.2 i e5 e5]; exact e20
      have hc0 : L[o]? = some (byteV (b.getD 0 0)) := (e4 0 hn0).trans (byte_at hn0)
      have hi0 : sidx 1 v (.int .i64 0) = some (.pointer (some ⟨i, o, none⟩)) := by rw [e1]; simpa using sidx_at (b := i) (o := o) (n := b.length) (c := 1) (j := 0) (sz := 1) (k := .i64) hn0
      have hl0 : ((b.length : Int) == 0) = false := beq_eq_false_iff_ne.2 (by omega)
      simp only [byteV] at hc0
      generalize hc : b.getD 0 0 = c at *
      simp -implicitDefEqProofs (disch := first | assumption | (simp only [wnA]; done) | (simp only [wnA]; omega) | omega | fail) [wkA, retV, stabOk, dC, ev, fillD, pickCells, putAt, bnd, slD, List.getElem?_cons_zero, List.getElem?_cons_succ, dR_sl, Mem.cell, Mem.row, wmA, hsl, thenA_goto, hl0, rc56_8, hi0, e2, hc0, getL1 hc0]
      refine c_Size ?_
      have hbs := bsize_cases c crc
      have htr : 1 ≤ trN crc ∧ trN crc ≤ 2 := by cases crc <;> decide
      generalize hz : bsize c crc = z at *
      by_cases hz0 : z = 0
      · have hz0' : ((z : Int) == 0) = true := by simp [hz0]
        rw [if_pos hz0] at hs0
        simp -implicitDefEqProofs (disch := first | assumption | (simp only [wnA]; done) | (simp only [wnA]; omega) | omega | fail) [wkA, retV, stabOk, dC, ev, fillD, pickCells, putAt, bnd, slD, List.getElem?_cons_zero, List.getElem?_cons_succ, dR_sl, Mem.cell, Mem.row, wmA, thenA_goto, hz0']
        exact hJ true 0 _ _ ⟨by simp [hs0], h2.tl, by simp⟩
      · have hz0' : ((z : Int) == 0) = false := by simp [hz0]
        rw [if_neg hz0] at hs0
        by_cases h2l : 2 < b.length
        · have h2l' : (2 : Int) < (b.length : Int) := by omega
          have hc1 : L[o + 1]? = some (byteV (b.getD 1 0)) := (e4 1 (by omega)).trans (byte_at (by omega))
          have hc2 : L[o + 2]? = some (byteV (b.getD 2 0)) := (e4 2 (by omega)).trans (byte_at (by omega))
          have hi1 : sidx 1 v (.int .i64 1) = some (.pointer (some ⟨i, o + 1, none⟩)) := by rw [e1]; simpa using sidx_at (b := i) (o := o) (n := b.length) (c := 1) (j := 1) (sz := 1) (k := .i64) (by omega)
          have hi2 : sidx 1 v (.int .i64 2) = some (.pointer (some ⟨i, o + 2, none⟩)) := by rw [e1]; simpa using sidx_at (b := i) (o := o) (n := b.length) (c := 1) (j := 2) (sz := 1) (k := .i64) (by omega)
          simp only [byteV] at hc1 hc2
          generalize b.getD 1 0 = x at *
          generalize b.getD 2 0 = y at *
          have hy := com8 y
          have hxy := c8n x (255 - y)
          simp -implicitDefEqProofs (disch := first | assumption | (simp only [wnA]; done) | (simp only [wnA]; omega) | omega | fail) [wkA, retV, stabOk, dC, ev, fillD, pickCells, putAt, bnd, slD, List.getElem?_cons_zero, List.getElem?_cons_succ, dR_sl, Mem.cell, Mem.row, wmA, thenA_goto, hz0', rc56_7, hsl, h2l', hi1, hi2, e2, hc1, getL1 hc1, hc2, getL1 hc2, hy, hxy]
          by_cases hne : x = 255 - y
          · rw [if_neg (fun h => h.2 hne)] at hs0
            by_cases hlz : b.length < z
            · have hlz' : (b.length : Int) < (z : Int) := by omega
              rw [if_pos hlz] at hs0
              simp -implicitDefEqProofs (disch := first | assumption | (simp only [wnA]; done) | (simp only [wnA]; omega) | omega | fail) [wkA, retV, stabOk, dC, ev, fillD, pickCells, putAt, bnd, slD, List.getElem?_cons_zero, List.getElem?_cons_succ, dR_sl, Mem.cell, Mem.row, wmA, thenA_goto, hne, rc56_6, hsl, hlz']
              exact hJ false 0 _ _ ⟨by simp [hs0], h2.tl, by simp⟩
            · have hlz' : ¬ (b.length : Int) < (z : Int) := by omega
              rw [if_neg hlz] at hs0
              have e2' := e2
              simp -implicitDefEqProofs (disch := first | assumption | (simp only [wnA]; done) | (simp only [wnA]; omega) | omega | fail) [wkA, retV, stabOk, dC, ev, fillD, pickCells, putAt, bnd, slD, List.getElem?_cons_zero, List.getElem?_cons_succ, dR_sl, Mem.cell, Mem.row, wmA, thenA_goto, hne, rc56_6, hsl, hlz', rc56_5, hi1, e2, hc1, getL1 hc1]
              refine SK_stS h2 0 rfl (o := 0) (vs := [.int .u8 ((255 - y).toNat : Int)]) (cs' := [.int .u8 ((255 - y).toNat : Int), .slice none 0 0]) (by simp [wkA, retV, stabOk, dC, ev, fillD, pickCells, putAt, bnd, slD, List.getElem?_cons_zero, List.getElem?_cons_succ, dR_sl]) (by simp [wkA, retV, stabOk, dC, ev, fillD, pickCells, putAt, bnd, slD, List.getElem?_cons_zero, List.getElem?_cons_succ, dR_sl, e2, hc1, getL1 hc1, hne]) (by simp) rfl rfl rfl fun m3 h3 n3 => ?_
              have g3 := h3.get 0 rfl
              have e23 : (m3.get i).cells? = some L := by rw [h3.k.2 i e5 e5]; exact e20
              simp -implicitDefEqProofs (disch := first | assumption | (simp only [wnA]; done) | (simp only [wnA]; omega) | omega | fail) [wkA, retV, stabOk, dC, ev, fillD, pickCells, putAt, bnd, slD, List.getElem?_cons_zero, List.getElem?_cons_succ, dR_sl, Mem.cell, Mem.row, wmA]
              refine c_trailer (d := []) (RdV.nil (X := X)).sl (by simp [maxLen]) ?_
              have h4 := h3.push (.own ((trailL [] crc).map byteV) 5)
              obtain ⟨m4, hm4⟩ : ∃ m4, m3.push (.own ((trailL [] crc).map byteV) 5) = m4 := ⟨_, rfl⟩
              rw [hm4] at h4 ⊢
              clear hm4
              have h4 := h4.tl
              obtain ⟨K, hK⟩ : ∃ K, z - trN crc = K := ⟨_, rfl⟩
              have w1 : IntKind.i64.wrap ((z : Int) - (trN crc : Nat)) = (K : Int) := by rw [w64 (by omega)]; omega
              obtain ⟨dl, hdl⟩ : ∃ dl, K - 3 = dl := ⟨_, rfl⟩
              rw [hK, hdl] at hs0
              have hdl2 : dl = 128 ∨ dl = 1024 := by omega
              have w2 : IntKind.i64.wrap (3 + (dl : Int)) = (K : Int) := by rw [w64 (by omega)]; omega
              obtain ⟨v4, hv4, hr41, hb4⟩ := (hrr.sep h4).sl.btw (a := 3) (b := K) (by omega) (by omega)
              rw [← List.map_drop, ← List.map_take, hdl] at hr41
              have hv4 : slW 1 v (some (.int .i64 3)) (some (.int .i64 (K : Int))) = some v4 := hv4
              obtain ⟨v5, hv5, hr51, hb5⟩ := (hrr.sep h4).sl.btw (a := K) (b := z) (by omega) (by omega)
              rw [← List.map_drop, ← List.map_take, show z - K = trN crc by omega] at hr51
              generalize hd : (b.drop 3).take dl = d at *
              generalize htl : (b.drop K).take (trN crc) = tl at *
              have hdn : d.length = dl := by rw [← hd]; simp; omega
              have htn : tl.length = trN crc := by rw [← htl]; simp; omega
              simp -implicitDefEqProofs (disch := first | assumption | (simp only [wnA]; done) | (simp only [wnA]; omega) | omega | fail) [wkA, retV, stabOk, dC, ev, fillD, pickCells, putAt, bnd, slD, List.getElem?_cons_zero, List.getElem?_cons_succ, dR_sl, Mem.cell, Mem.row, wmA, w1, hv4]
              refine SK_nwS h4 (k := dl) (ys := d.map byteV) (by simp [wkA, retV, stabOk, dC, ev, fillD, pickCells, putAt, bnd, slD, List.getElem?_cons_zero, List.getElem?_cons_succ, dR_sl]) (by simp [wkA, retV, stabOk, dC, ev, fillD, pickCells, putAt, bnd, slD, List.getElem?_cons_zero, List.getElem?_cons_succ, dR_sl]; exact hr41.elems) (by simp [wkA, retV, stabOk, dC, ev, fillD, pickCells, putAt, bnd, slD, List.getElem?_cons_zero, List.getElem?_cons_succ, dR_sl]; exact hr41.lenV) (byteV_oneC _) (by omega) (by unfold maxLen; omega) (by simp [hdn]) fun ob5 m5 h5 hn5 _ => ?_
              have g5 := h5.get 1 rfl
              simp -implicitDefEqProofs (disch := first | assumption | (simp only [wnA]; done) | (simp only [wnA]; omega) | omega | fail) [wkA, retV, stabOk, dC, ev, fillD, pickCells, putAt, bnd, slD, List.getElem?_cons_zero, List.getElem?_cons_succ, dR_sl, Mem.cell, Mem.row, wmA, g5]
              refine SK_stS h5 1 rfl (o := 1) (vs := [slV ob5 dl 1]) (cs' := [.int .u8 ((255 - y).toNat : Int), slV ob5 dl 1]) (by simp [wkA, retV, stabOk, dC, ev, fillD, pickCells, putAt, bnd, slD, List.getElem?_cons_zero, List.getElem?_cons_succ, dR_sl]) (by simp [wkA, retV, stabOk, dC, ev, fillD, pickCells, putAt, bnd, slD, List.getElem?_cons_zero, List.getElem?_cons_succ, dR_sl]) (by simp) rfl (by simp [oneC_slV]) rfl fun m6 h6 n6 => ?_
              have g6 := h6.get 1 rfl
              have hO6 := h6.slO 0 (k := dl) (sz := 1) rfl (by simp [hdn]) hn5
              have hsl6 := hO6.slen
              have hb6 := ((hrr.sep h6).sl.btw (a := K) (b := z) (by omega) (by omega))
              have hr56 : SlR m6 1 v5 (tl.map byteV) (trN crc) := hr51.keep fun k hk => by
                obtain ⟨hk1, hk2⟩ := hrr.bl k (hb5 k hk)
                rw [h6.k.2 k hk1 hk1, h4.k.2 k hk1 hk1]
              have hbs6 : bstr m6 v5 = some (.string ⟨⟨tl⟩⟩) := SlR.txt (by rw [htn]; exact hr56)
              simp -implicitDefEqProofs (disch := first | assumption | (simp only [wnA]; done) | (simp only [wnA]; omega) | omega | fail) [wkA, retV, stabOk, dC, ev, fillD, pickCells, putAt, bnd, slD, List.getElem?_cons_zero, List.getElem?_cons_succ, dR_sl, Mem.cell, Mem.row, wmA, g6, hsl6, w2, hv5, hbs6]
              refine c_trailer (d := d) (by rw [hdn]; exact hO6.read) (by rw [hdn]; unfold maxLen; omega) ?_
              have h7 := h6.push (.own ((trailL d crc).map byteV) 5)
              obtain ⟨m7, hm7⟩ : ∃ m7, m6.push (.own ((trailL d crc).map byteV) 5) = m7 := ⟨_, rfl⟩
              obtain ⟨b7, hb7⟩ : ∃ b7, m6.next = b7 := ⟨_, rfl⟩
              rw [hm7, hb7] at h7
              rw [hm7, hb7]
              clear hm7
              have g7 := h7.get 2 rfl
              have hr57 : SlR m7 1 v5 (tl.map byteV) (trN crc) := hr51.keep fun k hk => by
                obtain ⟨hk1, hk2⟩ := hrr.bl k (hb5 k hk)
                rw [h7.k.2 k hk1 hk1, h4.k.2 k hk1 hk1]
              have hbs7 : bstr m7 v5 = some (.string ⟨⟨tl⟩⟩) := SlR.txt (by rw [htn]; exact hr57)
              have hO7 := h7.slO 0 (k := trN crc) (sz := 1) rfl (by simp [trail_len]) (by simp)
              have hbs8 : bstr m7 (.slice (some ⟨b7, 0, none⟩) (trN crc) 1) = some (.string ⟨⟨trailL d crc⟩⟩) := SlR.txt (by rw [trail_len]; exact hO7.read)
              generalize trailL d crc = tr at *
              have hcmp : (!(tr == tl)) = decide (tr ≠ tl) := by by_cases h : tr = tl <;> simp [h]
              simp -implicitDefEqProofs (disch := first | assumption | (simp only [wnA]; done) | (simp only [wnA]; omega) | omega | fail) [wkA, retV, stabOk, dC, ev, fillD, pickCells, putAt, bnd, slD, List.getElem?_cons_zero, List.getElem?_cons_succ, dR_sl, Mem.cell, Mem.row, wmA, g7, hbs7, hbs8, hcmp, thenA_goto]
              by_cases htt : tr = tl
              · rw [if_pos htt] at hs0
                simp -implicitDefEqProofs (disch := first | assumption | (simp only [wnA]; done) | (simp only [wnA]; omega) | omega | fail) [wkA, retV, stabOk, dC, ev, fillD, pickCells, putAt, bnd, slD, List.getElem?_cons_zero, List.getElem?_cons_succ, dR_sl, Mem.cell, Mem.row, wmA, htt, rc56_4, thenA_goto, g7]
                refine SK_stS h7 3 rfl (o := 0) (vs := [.int .u8 ((255 - y).toNat : Int), slV ob5 dl 1]) (cs' := [.int .u8 ((255 - y).toNat : Int), slV ob5 dl 1]) (by simp [wkA, retV, stabOk, dC, ev, fillD, pickCells, putAt, bnd, slD, List.getElem?_cons_zero, List.getElem?_cons_succ, dR_sl]) (by simp [wkA, retV, stabOk, dC, ev, fillD, pickCells, putAt, bnd, slD, List.getElem?_cons_zero, List.getElem?_cons_succ, dR_sl, g7]) (by simp) rfl (by simp only [List.all_cons, List.all_nil, oneC_slV, Bool.and_true]; rfl) rfl fun m8 h8 n8 => ?_
                have g8 := h8.get 3 rfl
                simp -implicitDefEqProofs (disch := first | assumption | (simp only [wnA]; done) | (simp only [wnA]; omega) | omega | fail) [wkA, retV, stabOk, dC, ev, fillD, pickCells, putAt, bnd, slD, List.getElem?_cons_zero, List.getElem?_cons_succ, dR_sl, Mem.cell, Mem.row, wmA, g8]
                rw [hne] at hs0
                rw [hs0, hdn] at hq
                exact hq ob5 m8 h8.toOld (h8.fresh 1 rfl) (fun hn => List.length_eq_zero_iff.1 (by rw [hdn]; exact hn5 hn))
              · rw [if_neg htt] at hs0
                simp -implicitDefEqProofs (disch := first | assumption | (simp only [wnA]; done) | (simp only [wnA]; omega) | omega | fail) [wkA, retV, stabOk, dC, ev, fillD, pickCells, putAt, bnd, slD, List.getElem?_cons_zero, List.getElem?_cons_succ, dR_sl, Mem.cell, Mem.row, wmA, htt, thenA_goto]
                exact hJ true 0 _ _ ⟨by simp [hs0], h7.sel [3] (by decide), by simp⟩
          · rw [if_pos ⟨h2l, hne⟩] at hs0
            simp -implicitDefEqProofs (disch := first | assumption | (simp only [wnA]; done) | (simp only [wnA]; omega) | omega | fail) [wkA, retV, stabOk, dC, ev, fillD, pickCells, putAt, bnd, slD, List.getElem?_cons_zero, List.getElem?_cons_succ, dR_sl, Mem.cell, Mem.row, wmA, thenA_goto, hne]
            exact hJ true 0 _ _ ⟨by simp [hs0], h2.tl, by simp⟩
        · have h2l' : ¬ (2 : Int) < (b.length : Int) := by omega
          have hlz : (b.length : Int) < (z : Int) := by omega
          rw [if_neg (fun h => h2l h.1), if_pos (by omega)] at hs0
          simp -implicitDefEqProofs (disch := first | assumption | (simp only [wnA]; done) | (simp only [wnA]; omega) | omega | fail) [wkA, retV, stabOk, dC, ev, fillD, pickCells, putAt, bnd, slD, List.getElem?_cons_zero, List.getElem?_cons_succ, dR_sl, Mem.cell, Mem.row, wmA, thenA_goto, hz0', rc56_7, rc56_6, hsl, h2l', hlz]
          exact hJ false 0 _ _ ⟨by simp [hs0], h2.tl, by simp⟩
  · rintro k ts m2 J ⟨hs, h2, t4⟩ hJ
    have g2 := h2.get 0 rfl
    simp -implicitDefEqProofs (disch := first | assumption | (simp only [wnA]; done) | (simp only [wnA]; omega) | omega | fail) [rc56_9, rc56_2, wkA, retV, stabOk, dC, ev, fillD, pickCells, putAt, bnd, slD, List.getElem?_cons_zero, List.getElem?_cons_succ, dR_sl, Mem.cell, Mem.row, wmA, t4]
    refine SK_stS h2 0 rfl (o := 0) (cs' := [.int .u8 0, .slice none 0 0]) (vs := [.int .u8 0, .slice none 0 0]) (by simp [wkA, retV, stabOk, dC, ev, fillD, pickCells, putAt, bnd, slD, List.getElem?_cons_zero, List.getElem?_cons_succ, dR_sl, t4]) (by simp [wkA, retV, stabOk, dC, ev, fillD, pickCells, putAt, bnd, slD, List.getElem?_cons_zero, List.getElem?_cons_succ, dR_sl]) (by simp) rfl rfl rfl fun m3 h3 n3 => ?_
    have g3 := h3.get 0 rfl
    simp -implicitDefEqProofs (disch := first | assumption | (simp only [wnA]; done) | (simp only [wnA]; omega) | omega | fail) [wkA, retV, stabOk, dC, ev, fillD, pickCells, putAt, bnd, slD, List.getElem?_cons_zero, List.getElem?_cons_succ, dR_sl, Mem.cell, Mem.row, wmA, t4, g3]
    rw [hs] at hq
    exact hq none m3 h3.toOld (fun i hi => by cases hi) (fun _ => rfl)
  · rintro k ts m2 J ⟨hs, h2, t4⟩ hJ
    have g2 := h2.get 0 rfl
    simp -implicitDefEqProofs (disch := first | assumption | (simp only [wnA]; done) | (simp only [wnA]; omega) | omega | fail) [rc56_10, rc56_0, wkA, retV, stabOk, dC, ev, fillD, pickCells, putAt, bnd, slD, List.getElem?_cons_zero, List.getElem?_cons_succ, dR_sl, Mem.cell, Mem.row, wmA, t4]
    refine SK_stS h2 0 rfl (o := 0) (cs' := [.int .u8 0, .slice none 0 0]) (vs := [.int .u8 0, .slice none 0 0]) (by simp [wkA, retV, stabOk, dC, ev, fillD, pickCells, putAt, bnd, slD, List.getElem?_cons_zero, List.getElem?_cons_succ, dR_sl, t4]) (by simp [wkA, retV, stabOk, dC, ev, fillD, pickCells, putAt, bnd, slD, List.getElem?_cons_zero, List.getElem?_cons_succ, dR_sl]) (by simp) rfl rfl rfl fun m3 h3 n3 => ?_
    have g3 := h3.get 0 rfl
    simp -implicitDefEqProofs (disch := first | assumption | (simp only [wnA]; done) | (simp only [wnA]; omega) | omega | fail) [wkA, retV, stabOk, dC, ev, fillD, pickCells, putAt, bnd, slD, List.getElem?_cons_zero, List.getElem?_cons_succ, dR_sl, Mem.cell, Mem.row, wmA, t4, g3]
    rw [hs] at hq
    exact hq none m3 h3.toOld (fun i hi => by cases hi) (fun _ => rfl)
end Go.Proofs.YtiapjjgmmiifmaaGreatDoor.Ab

set_option linter.unusedVariables false
set_option linter.unusedSimpArgs false
namespace Go.Proofs.YtiapjjgmmiifmaaGreatDoor.Ab
open Go Go.RowKit
set_option maxHeartbeats 4000000
set_option maxRecDepth 100000
def errV (n : Nat) : Value := match n with
  | 0 => .nilIface
  | k + 1 => .iface 108 (.int .i64 ((k + 1 : Nat) : Int))
theorem cellsV_errV (n : Nat) : cellsV (errV n) = [errV n] := by cases n <;> rfl
theorem oneC_errV (n : Nat) : oneC (errV n) = true := by cases n <;> rfl
structure Rc where
  crc : Bool
  wait : Int
  tries : Int
  left : Int
  number : UInt8
  begun : Bool
  close : Bool
  buffer : List UInt8
  data : List UInt8
  blocks : Int
  want : Int
  over : Bool
  err : Nat
def rcC (s : Rc) (vb vd : Value) : List Value := [.bool s.crc, .int .i64 s.wait, .int .i64 s.tries, .int .i64 s.left, .int .u8 (s.number.toNat : Int), .bool s.begun, .bool s.close, vb, vd, .int .i64 s.blocks, .int .i64 s.want, .bool s.over, errV s.err]
def rcH (ir : Nat) (ob od : Option Nat) (s : Rc) : HL := [(some ir, .own (rcC s (slV ob s.buffer.length 1) (slV od s.data.length 1)) 106), byH ob s.buffer, byH od s.data]
structure RcW (s : Rc) : Prop where
  w1 : 1 ≤ s.wait
  w2 : s.wait ≤ 99
  t1 : 0 ≤ s.tries
  t2 : s.tries ≤ 9
  l1 : 1 ≤ s.left
  l2 : s.left ≤ 99
  b1 : 0 ≤ s.blocks
  b2 : s.blocks ≤ s.data.length
theorem add8 (c : UInt8) : IntKind.u8.wrap ((c.toNat : Int) + 1) = ((c + 1).toNat : Int) := by
  have hc := c.toNat_lt
  rw [UInt8.toNat_add]
  have h1 : (1 : UInt8).toNat = 1 := rfl
  rw [h1]
  simp only [IntKind.wrap, IntKind.bits, IntKind.signed]
  simp
theorem sub8 (c : UInt8) : IntKind.u8.wrap ((c.toNat : Int) - 1) = ((c - 1).toNat : Int) := by
  have hc := c.toNat_lt
  rw [UInt8.toNat_sub]
  have h1 : (1 : UInt8).toNat = 1 := rfl
  rw [h1]
  simp only [IntKind.wrap, IntKind.bits, IntKind.signed]
  simp
  omega
theorem c_rEnd {w0 : World} {V : Nat → Prop} {m0 m : Mem} {l : HL} {ir : Nat} {s : Rc} {vb vd v : Value} {e : Nat} {Q : Value → Mem → Prop} (h : Sep m0 V m l) (q : Nat) (hl : l[q]? = some (some ir, .own (rcC s vb vd) 106))
    (hq : ∀ M, Sep m0 V M (l.set q (some ir, .own (rcC { s with over := true, err := e } vb vd) 106)) → Q v M) :
    AbC Tryz.prog w0 54 [.pointer (some ⟨ir, 0, none⟩), errV e, v] m Q := by
  refine AbC_fn ok54 (by simp) ?_
  simp -implicitDefEqProofs (disch := first | assumption | omega | fail) [rc54, ro54, wkB, retV, stabOk, dC, ev, fillD, pickCells, putAt, bnd, slD, List.getElem?_cons_zero, List.getElem?_cons_succ, Mem.cell, Mem.row, cells_own, cells_ro]
  refine SK_stS h q hl (o := 11) (vs := [.bool true]) (cs' := rcC { s with over := true } vb vd) (by simp [wkB, retV, stabOk, dC, ev, fillD, pickCells, putAt, bnd, slD, List.getElem?_cons_zero, List.getElem?_cons_succ, Mem.cell, Mem.row, cells_own, cells_ro]) (by simp [wkB, retV, stabOk, dC, ev, fillD, pickCells, putAt, bnd, slD, List.getElem?_cons_zero, List.getElem?_cons_succ, Mem.cell, Mem.row, cells_own, cells_ro]) (by simp [rcC]) rfl rfl (by simp [rcC, putAt]) fun m1 h1 n1 => ?_
  have hl1 : (l.set q (some ir, Ent.own (rcC { s with over := true } vb vd) 106))[q]? = some (some ir, .own (rcC { s with over := true } vb vd) 106) := by
    rw [List.getElem?_set_self]; exact (List.getElem?_eq_some_iff.1 hl).1
  simp -implicitDefEqProofs (disch := first | assumption | omega | fail) [wkB, retV, stabOk, dC, ev, fillD, pickCells, putAt, bnd, slD, List.getElem?_cons_zero, List.getElem?_cons_succ, Mem.cell, Mem.row, cells_own, cells_ro]
  refine SK_stS h1 q hl1 (o := 12) (vs := [errV e]) (cs' := rcC { s with over := true, err := e } vb vd) (by simp [wkB, retV, stabOk, dC, ev, fillD, pickCells, putAt, bnd, slD, List.getElem?_cons_zero, List.getElem?_cons_succ, Mem.cell, Mem.row, cells_own, cells_ro]) (by simp [wkB, retV, stabOk, dC, ev, fillD, pickCells, putAt, bnd, slD, List.getElem?_cons_zero, List.getElem?_cons_succ, Mem.cell, Mem.row, cells_own, cells_ro, cellsV_errV]) (by simp [rcC]) rfl (by simp [oneC_errV]) (by simp [rcC, putAt]) fun m2 h2 n2 => ?_
  rw [List.set_set] at h2
  simp -implicitDefEqProofs (disch := first | assumption | omega | fail) [wkB, retV, stabOk, dC, ev, fillD, pickCells, putAt, bnd, slD, List.getElem?_cons_zero, List.getElem?_cons_succ, Mem.cell, Mem.row, cells_own, cells_ro]
  exact hq m2 h2
def finF (s : Rc) : Rc × List UInt8 := if s.close = false ∧ s.blocks = s.want then ({ s with over := true, err := 0 }, [6]) else (s, [6])
def takeF (s : Rc) (n : UInt8) (d : List UInt8) : Rc × List UInt8 :=
  if n = s.number then finF { s with data := s.data ++ d, number := s.number + 1, blocks := s.blocks + 1, begun := true }
  else if s.begun = false ∨ n ≠ s.number - 1 then ({ s with over := true, err := 14 }, [24, 24]) else finF s
theorem c_rTake {w0 : World} {V : Nat → Prop} {m : Mem} {ir : Nat} {ob od : Option Nat} {s : Rc} {v : Value} {n : UInt8} {d : List UInt8} {Q : Value → Mem → Prop} (h : Sep m V m (rcH ir ob od s)) (hb : ob = none → s.buffer.length = 0) (hd : od = none → s.data.length = 0) (hw : RcW s)
    (hr : RdV V m 1 v (d.map byteV) d.length) (hdl : 1 ≤ d.length) (hbig : s.data.length + d.length ≤ 140737488355328)
    (hq : ∀ oo od' M, Sep m V M (byH (some oo) (takeF s n d).2 :: rcH ir ob od' (takeF s n d).1) → (od' = none → (takeF s n d).1.data.length = 0) → RcW (takeF s n d).1 → Q (slV (some oo) (takeF s n d).2.length 1) M) :
    AbC Tryz.prog w0 57 [.pointer (some ⟨ir, 0, none⟩), .agg ⟨[.int .u8 (n.toNat : Int), v]⟩] m Q := by
  refine AbC_fn ok57 (by simp) ?_
  simp -implicitDefEqProofs (disch := first | assumption | omega | fail) [rc57, ro57, wkB, retV, stabOk, dC, ev, fillD, pickCells, putAt, bnd, slD, List.getElem?_cons_zero, List.getElem?_cons_succ, Mem.cell, Mem.row, cells_own, cells_ro]
  refine SK_bxS h (cs := [.int .u8 (n.toNat : Int), v]) (by simp [wkB, retV, stabOk, dC, ev, fillD, pickCells, putAt, bnd, slD, List.getElem?_cons_zero, List.getElem?_cons_succ, Mem.cell, Mem.row, cells_own, cells_ro]) fun B m1 h1 _ _ => ?_
  simp -implicitDefEqProofs (disch := first | assumption | omega | fail) [wkB, retV, stabOk, dC, ev, fillD, pickCells, putAt, bnd, slD, List.getElem?_cons_zero, List.getElem?_cons_succ, Mem.cell, Mem.row, cells_own, cells_ro]
  have key : ∀ (s1 : Rc) (od1 : Option Nat) (fr : Fr) (M : Mem), Sep m V M ((some B, .own [.int .u8 (n.toNat : Int), v] 90) :: rcH ir ob od1 s1) → (od1 = none → s1.data.length = 0) → RcW s1 → fr 0 = .pointer (some ⟨ir, 0, none⟩) → takeF s n d = finF s1 →
      AbW Tryz.prog w0 rc57_1 (bodyA [.mv (.tmp 4)] Q) fr M := by
    intro s1 od1 fr M hM hod hw1 t0 he
    have gi := hM.get 1 rfl
    rw [he] at hq
    have eb : ((s1.blocks == s1.want) : Bool) = decide (s1.blocks = s1.want) := by by_cases hh : s1.blocks = s1.want <;> simp [hh]
    cases hc : s1.close with
    | true =>
      have hf : finF s1 = (s1, [6]) := by simp [finF, hc]
      rw [hf] at hq
      simp only [rcC, hc] at gi
      simp -implicitDefEqProofs (disch := first | assumption | omega | fail) [rc57_1, rc57_0, wkB, retV, stabOk, dC, ev, fillD, pickCells, putAt, bnd, slD, List.getElem?_cons_zero, List.getElem?_cons_succ, Mem.cell, Mem.row, cells_own, cells_ro, t0, gi]
      refine SK_bslS hM (cs := ([6] : List UInt8).map byteV) (by simp [fillD, pickCells, wkB, retV, stabOk, dC, ev, fillD, pickCells, putAt, bnd, slD, List.getElem?_cons_zero, List.getElem?_cons_succ, Mem.cell, Mem.row, cells_own, cells_ro, byteV]) (by simp) fun b m2 h2 _ _ => ?_
      simp -implicitDefEqProofs (disch := first | assumption | omega | fail) [wkB, retV, stabOk, dC, ev, fillD, pickCells, putAt, bnd, slD, List.getElem?_cons_zero, List.getElem?_cons_succ, Mem.cell, Mem.row, cells_own, cells_ro]
      exact hq b od1 m2 (h2.sel [0, 2, 3, 4] (by decide)) hod hw1
    | false =>
      simp only [rcC, hc] at gi
      by_cases hbw : s1.blocks = s1.want
      · have hf : finF s1 = ({ s1 with over := true, err := 0 }, [6]) := by simp [finF, hc, hbw]
        rw [hf] at hq
        simp -implicitDefEqProofs (disch := first | assumption | omega | fail) [rc57_1, wkB, retV, stabOk, dC, ev, fillD, pickCells, putAt, bnd, slD, List.getElem?_cons_zero, List.getElem?_cons_succ, Mem.cell, Mem.row, cells_own, cells_ro, t0, gi, hbw]
        refine SK_bslS hM (cs := ([6] : List UInt8).map byteV) (by simp [fillD, pickCells, wkB, retV, stabOk, dC, ev, fillD, pickCells, putAt, bnd, slD, List.getElem?_cons_zero, List.getElem?_cons_succ, Mem.cell, Mem.row, cells_own, cells_ro, byteV]) (by simp) fun b m2 h2 _ _ => ?_
        simp -implicitDefEqProofs (disch := first | assumption | omega | fail) [wkB, retV, stabOk, dC, ev, fillD, pickCells, putAt, bnd, slD, List.getElem?_cons_zero, List.getElem?_cons_succ, Mem.cell, Mem.row, cells_own, cells_ro, t0]
        refine c_rEnd (s := s1) (e := 0) h2 2 rfl fun m3 h3 => ?_
        simp -implicitDefEqProofs (disch := first | assumption | omega | fail) [wkB, retV, stabOk, dC, ev, fillD, pickCells, putAt, bnd, slD, List.getElem?_cons_zero, List.getElem?_cons_succ, Mem.cell, Mem.row, cells_own, cells_ro]
        exact hq b od1 m3 (h3.sel [0, 2, 3, 4] (by decide)) hod ⟨hw1.1, hw1.2, hw1.3, hw1.4, hw1.5, hw1.6, hw1.7, hw1.8⟩
      · have hf : finF s1 = (s1, [6]) := by simp [finF, hc, hbw]
        rw [hf] at hq
        have eb : (s1.blocks == s1.want) = false := by simp [hbw]
        simp -implicitDefEqProofs (disch := first | assumption | omega | fail) [rc57_1, rc57_0, wkB, retV, stabOk, dC, ev, fillD, pickCells, putAt, bnd, slD, List.getElem?_cons_zero, List.getElem?_cons_succ, Mem.cell, Mem.row, cells_own, cells_ro, t0, gi, eb]
        refine SK_bslS hM (cs := ([6] : List UInt8).map byteV) (by simp [fillD, pickCells, wkB, retV, stabOk, dC, ev, fillD, pickCells, putAt, bnd, slD, List.getElem?_cons_zero, List.getElem?_cons_succ, Mem.cell, Mem.row, cells_own, cells_ro, byteV]) (by simp) fun b m2 h2 _ _ => ?_
        simp -implicitDefEqProofs (disch := first | assumption | omega | fail) [wkB, retV, stabOk, dC, ev, fillD, pickCells, putAt, bnd, slD, List.getElem?_cons_zero, List.getElem?_cons_succ, Mem.cell, Mem.row, cells_own, cells_ro]
        exact hq b od1 m2 (h2.sel [0, 2, 3, 4] (by decide)) hod hw1
  have g0 := h1.get 0 rfl
  have g1 := h1.get 1 rfl
  simp only [rcC] at g1
  have en := c8 n s.number
  by_cases h8 : n = s.number
  · have h8' : ((n.toNat : Int) == (s.number.toNat : Int)) = true := by rw [en]; simp [h8]
    simp -implicitDefEqProofs (disch := first | assumption | omega | fail) [wkB, retV, stabOk, dC, ev, fillD, pickCells, putAt, bnd, slD, List.getElem?_cons_zero, List.getElem?_cons_succ, Mem.cell, Mem.row, cells_own, cells_ro, g0, g1, h8']
    refine SK_apS h1 3 (n := s.data.length) (k := d.length) (ys := d.map byteV) rfl (by simp [wkB, retV, stabOk, dC, ev, fillD, pickCells, putAt, bnd, slD, List.getElem?_cons_zero, List.getElem?_cons_succ, Mem.cell, Mem.row, cells_own, cells_ro, g1]) (by simp) hd (by simp [wkB, retV, stabOk, dC, ev, fillD, pickCells, putAt, bnd, slD, List.getElem?_cons_zero, List.getElem?_cons_succ, Mem.cell, Mem.row, cells_own, cells_ro, g0]; exact (hr.sep h1).sl.elems) (by simp [wkB, retV, stabOk, dC, ev, fillD, pickCells, putAt, bnd, slD, List.getElem?_cons_zero, List.getElem?_cons_succ, Mem.cell, Mem.row, cells_own, cells_ro, g0]; exact hr.sl.lenV) (byteV_oneC _) (by omega) (by unfold maxLen; omega) (by simp) fun od2 m2 h2 hn2 _ => ?_
    simp -implicitDefEqProofs (disch := first | assumption | omega | fail) [wkB, retV, stabOk, dC, ev, fillD, pickCells, putAt, bnd, slD, List.getElem?_cons_zero, List.getElem?_cons_succ, Mem.cell, Mem.row, cells_own, cells_ro]
    refine SK_stS h2 1 rfl (o := 8) (vs := [slV od2 (s.data.length + d.length) 1]) (cs' := rcC { s with data := s.data ++ d } (slV ob s.buffer.length 1) (slV od2 (s.data.length + d.length) 1)) (by simp [wkB, retV, stabOk, dC, ev, fillD, pickCells, putAt, bnd, slD, List.getElem?_cons_zero, List.getElem?_cons_succ, Mem.cell, Mem.row, cells_own, cells_ro]) (by simp [wkB, retV, stabOk, dC, ev, fillD, pickCells, putAt, bnd, slD, List.getElem?_cons_zero, List.getElem?_cons_succ, Mem.cell, Mem.row, cells_own, cells_ro]) (by simp [rcC]) rfl (by simp [oneC_slV]) (by simp [rcC, putAt]) fun m3 h3 _ => ?_
    have g3 := h3.get 1 rfl
    have w8a := add8 s.number
    simp only [rcC] at g3
    simp -implicitDefEqProofs (disch := first | assumption | omega | fail) [wkB, retV, stabOk, dC, ev, fillD, pickCells, putAt, bnd, slD, List.getElem?_cons_zero, List.getElem?_cons_succ, Mem.cell, Mem.row, cells_own, cells_ro, g3, w8a]
    refine SK_stS h3 1 rfl (o := 4) (vs := [.int .u8 ((s.number + 1).toNat : Int)]) (cs' := rcC { s with data := s.data ++ d, number := s.number + 1 } (slV ob s.buffer.length 1) (slV od2 (s.data.length + d.length) 1)) (by simp [wkB, retV, stabOk, dC, ev, fillD, pickCells, putAt, bnd, slD, List.getElem?_cons_zero, List.getElem?_cons_succ, Mem.cell, Mem.row, cells_own, cells_ro]) (by simp [wkB, retV, stabOk, dC, ev, fillD, pickCells, putAt, bnd, slD, List.getElem?_cons_zero, List.getElem?_cons_succ, Mem.cell, Mem.row, cells_own, cells_ro]) (by simp [rcC]) rfl rfl (by simp [rcC, putAt]) fun m4 h4 _ => ?_
    have g4 := h4.get 1 rfl
    simp only [rcC] at g4
    have hb1 := hw.b1
    have hb2 := hw.b2
    have wb : IntKind.i64.wrap (s.blocks + 1) = s.blocks + 1 := w64 (by omega)
    simp -implicitDefEqProofs (disch := first | assumption | omega | fail) [wkB, retV, stabOk, dC, ev, fillD, pickCells, putAt, bnd, slD, List.getElem?_cons_zero, List.getElem?_cons_succ, Mem.cell, Mem.row, cells_own, cells_ro, g4, wb]
    refine SK_stS h4 1 rfl (o := 9) (vs := [.int .i64 (s.blocks + 1)]) (cs' := rcC { s with data := s.data ++ d, number := s.number + 1, blocks := s.blocks + 1 } (slV ob s.buffer.length 1) (slV od2 (s.data.length + d.length) 1)) (by simp [wkB, retV, stabOk, dC, ev, fillD, pickCells, putAt, bnd, slD, List.getElem?_cons_zero, List.getElem?_cons_succ, Mem.cell, Mem.row, cells_own, cells_ro]) (by simp [wkB, retV, stabOk, dC, ev, fillD, pickCells, putAt, bnd, slD, List.getElem?_cons_zero, List.getElem?_cons_succ, Mem.cell, Mem.row, cells_own, cells_ro]) (by simp [rcC]) rfl rfl (by simp [rcC, putAt]) fun m5 h5 _ => ?_
    simp -implicitDefEqProofs (disch := first | assumption | omega | fail) [wkB, retV, stabOk, dC, ev, fillD, pickCells, putAt, bnd, slD, List.getElem?_cons_zero, List.getElem?_cons_succ, Mem.cell, Mem.row, cells_own, cells_ro]
    refine SK_stS h5 1 rfl (o := 5) (vs := [.bool true]) (cs' := rcC { s with data := s.data ++ d, number := s.number + 1, blocks := s.blocks + 1, begun := true } (slV ob s.buffer.length 1) (slV od2 (s.data.length + d.length) 1)) (by simp [wkB, retV, stabOk, dC, ev, fillD, pickCells, putAt, bnd, slD, List.getElem?_cons_zero, List.getElem?_cons_succ, Mem.cell, Mem.row, cells_own, cells_ro]) (by simp [wkB, retV, stabOk, dC, ev, fillD, pickCells, putAt, bnd, slD, List.getElem?_cons_zero, List.getElem?_cons_succ, Mem.cell, Mem.row, cells_own, cells_ro]) (by simp [rcC]) rfl rfl (by simp [rcC, putAt]) fun m6 h6 _ => ?_
    simp -implicitDefEqProofs (disch := first | assumption | omega | fail) [wkB, retV, stabOk, dC, ev, fillD, pickCells, putAt, bnd, slD, List.getElem?_cons_zero, List.getElem?_cons_succ, Mem.cell, Mem.row, cells_own, cells_ro]
    have e6 : s.data.map byteV ++ d.map byteV = (s.data ++ d).map byteV := by simp
    have h6' : Sep m V m6 ((some B, .own [.int .u8 (n.toNat : Int), v] 90) :: rcH ir ob od2 { s with data := s.data ++ d, number := s.number + 1, blocks := s.blocks + 1, begun := true }) := by
      have := h6
      simp only [rcH, byH, List.set, List.length_append] at this ⊢
      rw [e6] at this
      exact this
    refine key _ od2 _ m6 h6' (fun e => by have := hn2 e; simp only [List.length_append]; omega) ⟨hw.1, hw.2, hw.3, hw.4, hw.5, hw.6, by show 0 ≤ s.blocks + 1; omega, by simp only [List.length_append]; omega⟩ (by simp [frA_at]) (by simp [takeF, h8])
  · have h8' : ((n.toNat : Int) == (s.number.toNat : Int)) = false := by rw [en]; simp [h8]
    have e9 := c8n n (s.number - 1)
    have e10 := sub8 s.number
    cases hbg : s.begun with
    | false =>
      have ht : takeF s n d = ({ s with over := true, err := 14 }, [24, 24]) := by simp [takeF, h8, hbg]
      rw [ht] at hq
      rw [hbg] at g1
      simp -implicitDefEqProofs (disch := first | assumption | omega | fail) [wkB, retV, stabOk, dC, ev, fillD, pickCells, putAt, bnd, slD, List.getElem?_cons_zero, List.getElem?_cons_succ, Mem.cell, Mem.row, cells_own, cells_ro, g0, g1, h8']
      refine SK_bslS h1 (cs := ([24, 24] : List UInt8).map byteV) (by simp [fillD, pickCells, wkB, retV, stabOk, dC, ev, fillD, pickCells, putAt, bnd, slD, List.getElem?_cons_zero, List.getElem?_cons_succ, Mem.cell, Mem.row, cells_own, cells_ro, byteV]) (by simp) fun b m2 h2 _ _ => ?_
      simp -implicitDefEqProofs (disch := first | assumption | omega | fail) [wkB, retV, stabOk, dC, ev, fillD, pickCells, putAt, bnd, slD, List.getElem?_cons_zero, List.getElem?_cons_succ, Mem.cell, Mem.row, cells_own, cells_ro]
      refine c_rEnd (s := s) (e := 14) h2 2 rfl fun m3 h3 => ?_
      simp -implicitDefEqProofs (disch := first | assumption | omega | fail) [wkB, retV, stabOk, dC, ev, fillD, pickCells, putAt, bnd, slD, List.getElem?_cons_zero, List.getElem?_cons_succ, Mem.cell, Mem.row, cells_own, cells_ro]
      exact hq b od m3 (h3.sel [0, 2, 3, 4] (by decide)) hd ⟨hw.1, hw.2, hw.3, hw.4, hw.5, hw.6, hw.7, hw.8⟩
    | true =>
      rw [hbg] at g1
      by_cases h9 : n = s.number - 1
      · have ht : takeF s n d = finF s := by
          unfold takeF
          rw [if_neg h8, if_neg (by simp [hbg, ← h9])]
        rw [h9] at e9
        have e9 : (((s.number - 1).toNat : Int) != ((s.number - 1).toNat : Int)) = false := by simp
        rw [← h9] at e9
        simp -implicitDefEqProofs (disch := first | assumption | omega | fail) [wkB, retV, stabOk, dC, ev, fillD, pickCells, putAt, bnd, slD, List.getElem?_cons_zero, List.getElem?_cons_succ, Mem.cell, Mem.row, cells_own, cells_ro, g0, g1, h8', e10, ← h9]
        exact key s od _ m1 h1 hd hw (by simp [frA_at]) ht
      · have ht : takeF s n d = ({ s with over := true, err := 14 }, [24, 24]) := by simp [takeF, h8, h9]
        rw [ht] at hq
        have e9 : ((n.toNat : Int) != ((s.number - 1).toNat : Int)) = true := by rw [e9]; simp [h9]
        simp -implicitDefEqProofs (disch := first | assumption | omega | fail) [wkB, retV, stabOk, dC, ev, fillD, pickCells, putAt, bnd, slD, List.getElem?_cons_zero, List.getElem?_cons_succ, Mem.cell, Mem.row, cells_own, cells_ro, g0, g1, h8', e10, e9]
        refine SK_bslS h1 (cs := ([24, 24] : List UInt8).map byteV) (by simp [fillD, pickCells, wkB, retV, stabOk, dC, ev, fillD, pickCells, putAt, bnd, slD, List.getElem?_cons_zero, List.getElem?_cons_succ, Mem.cell, Mem.row, cells_own, cells_ro, byteV]) (by simp) fun b m2 h2 _ _ => ?_
        simp -implicitDefEqProofs (disch := first | assumption | omega | fail) [wkB, retV, stabOk, dC, ev, fillD, pickCells, putAt, bnd, slD, List.getElem?_cons_zero, List.getElem?_cons_succ, Mem.cell, Mem.row, cells_own, cells_ro]
        refine c_rEnd (s := s) (e := 14) h2 2 rfl fun m3 h3 => ?_
        simp -implicitDefEqProofs (disch := first | assumption | omega | fail) [wkB, retV, stabOk, dC, ev, fillD, pickCells, putAt, bnd, slD, List.getElem?_cons_zero, List.getElem?_cons_succ, Mem.cell, Mem.row, cells_own, cells_ro]
        exact hq b od m3 (h3.sel [0, 2, 3, 4] (by decide)) hd ⟨hw.1, hw.2, hw.3, hw.4, hw.5, hw.6, hw.7, hw.8⟩
end Go.Proofs.YtiapjjgmmiifmaaGreatDoor.Ab

set_option linter.unusedVariables false
set_option linter.unusedSimpArgs false
namespace Go.Proofs.YtiapjjgmmiifmaaGreatDoor.Ab
open Go Go.RowKit
set_option maxHeartbeats 4000000
set_option maxRecDepth 100000
structure RcR (H : HL) (ir : Nat) (s : Rc) : Prop where
  ex : ∃ ob od, H = rcH ir ob od s ∧ (ob = none → s.buffer.length = 0) ∧ (od = none → s.data.length = 0)
  w : RcW s
noncomputable def scaF (s : Rc) : Rc × List UInt8 :=
  if (scanF s.buffer s.crc).1 = 0 then (s, []) else if (scanF s.buffer s.crc).1 = 1 then ({ s with buffer := [] }, [21]) else takeF { s with buffer := [] } (scanF s.buffer s.crc).2.1 (scanF s.buffer s.crc).2.2
noncomputable def rPut1 (s : Rc) : Rc × List UInt8 :=
  if s.buffer.getD 0 0 = 4 ∧ s.close = true then ({ s with over := true, err := 0 }, [6])
  else if s.buffer.getD 0 0 = 24 ∧ 1 < s.buffer.length ∧ s.buffer.getD 1 0 = 24 then ({ s with over := true, err := 9 }, [])
  else if s.buffer.getD 0 0 = 24 ∧ s.buffer.length = 1 then (s, [])
  else scaF s
noncomputable def rPutF (s : Rc) (b : List UInt8) : Rc × List UInt8 := if s.over = true ∨ b.length = 0 then (s, []) else rPut1 { s with left := s.wait, buffer := s.buffer ++ b }
/-- What a receiver tells, and what lies behind it. -/
def RcQ (V : Nat → Prop) (m : Mem) (ir : Nat) (r : Rc × List UInt8) (Q : Value → Mem → Prop) : Prop :=
  ∀ oo H' M, Sep m V M (byH oo r.2 :: H') → RcR H' ir r.1 → (oo = none → r.2.length = 0) → Q (slV oo r.2.length 1) M
theorem finF_buf (s : Rc) : (finF s).1.buffer = s.buffer := by
  unfold finF; split <;> rfl
theorem finF_data (s : Rc) : (finF s).1.data = s.data := by
  unfold finF; split <;> rfl
theorem takeF_buf (s : Rc) (n : UInt8) (d : List UInt8) : (takeF s n d).1.buffer = s.buffer := by
  unfold takeF
  split
  · rw [finF_buf]
  · split
    · rfl
    · rw [finF_buf]
theorem c_rSca3 {w0 : World} {V : Nat → Prop} {m0 m : Mem} {ir bx : Nat} {ob od ox : Option Nat} {s : Rc} {fr : Fr} {Q : Value → Mem → Prop} (h : Sep m0 V m ((some bx, .own [.int .u8 ((scanF s.buffer s.crc).2.1.toNat : Int), slV ox (scanF s.buffer s.crc).2.2.length 1] 90) :: byH ox (scanF s.buffer s.crc).2.2 :: rcH ir ob od s))
    (hb : ob = none → s.buffer.length = 0) (hd : od = none → s.data.length = 0) (hx : ox = none → (scanF s.buffer s.crc).2.2 = []) (hw : RcW s)
    (hbig : s.data.length + 1024 ≤ 140737488355328) (t0 : fr 0 = .pointer (some ⟨ir, 0, none⟩)) (t6 : fr 6 = .pointer (some ⟨bx, 0, none⟩)) (t7 : fr 7 = .int .i64 ((scanF s.buffer s.crc).1 : Nat)) (hq : RcQ V m0 ir (scaF s) Q) :
    AbW Tryz.prog w0 rc43_3 (bodyA [.mv (.tmp 4)] Q) fr m := by
  have g0 := h.get 0 rfl
  have g2 := h.get 2 rfl
  have hst := scanF_st s.buffer s.crc
  have hln := scanF_len s.buffer s.crc
  unfold scaF at hq
  generalize scanF s.buffer s.crc = r at *
  obtain ⟨st, n, d⟩ := r
  simp only at *
  simp only [rcC] at g2
  rcases hst with rfl | rfl | rfl
  · rw [if_pos rfl] at hq
    simp -implicitDefEqProofs (disch := first | assumption | omega | fail) [rc43_3, wkB, retV, stabOk, dC, ev, fillD, pickCells, putAt, bnd, slD, List.getElem?_cons_zero, List.getElem?_cons_succ, Mem.cell, Mem.row, cells_own, cells_ro, t0, t6, t7]
    exact hq none _ m ((h.sel [2, 3, 4] (by decide)).non _) ⟨⟨ob, od, rfl, hb, hd⟩, hw⟩ (fun _ => rfl)
  · rw [if_neg (by decide), if_pos rfl] at hq
    simp -implicitDefEqProofs (disch := first | assumption | omega | fail) [rc43_3, wkB, retV, stabOk, dC, ev, fillD, pickCells, putAt, bnd, slD, List.getElem?_cons_zero, List.getElem?_cons_succ, Mem.cell, Mem.row, cells_own, cells_ro, t0, t6, t7, g2]
    refine SK_stS h 2 rfl (o := 7) (vs := [.slice none 0 0]) (cs' := rcC { s with buffer := [] } (.slice none 0 0) (slV od s.data.length 1)) (by simp [wkB, retV, stabOk, dC, ev, fillD, pickCells, putAt, bnd, slD, List.getElem?_cons_zero, List.getElem?_cons_succ, Mem.cell, Mem.row, cells_own, cells_ro]) (by simp [wkB, retV, stabOk, dC, ev, fillD, pickCells, putAt, bnd, slD, List.getElem?_cons_zero, List.getElem?_cons_succ, Mem.cell, Mem.row, cells_own, cells_ro]) (by simp [rcC]) rfl rfl (by simp [rcC, putAt]) fun m1 h1 _ => ?_
    simp -implicitDefEqProofs (disch := first | assumption | omega | fail) [wkB, retV, stabOk, dC, ev, fillD, pickCells, putAt, bnd, slD, List.getElem?_cons_zero, List.getElem?_cons_succ, Mem.cell, Mem.row, cells_own, cells_ro]
    refine SK_bslS h1 (cs := ([21] : List UInt8).map byteV) (by simp [fillD, pickCells, wkB, retV, stabOk, dC, ev, fillD, pickCells, putAt, bnd, slD, List.getElem?_cons_zero, List.getElem?_cons_succ, Mem.cell, Mem.row, cells_own, cells_ro, byteV]) (by simp) fun b m2 h2 _ _ => ?_
    simp -implicitDefEqProofs (disch := first | assumption | omega | fail) [wkB, retV, stabOk, dC, ev, fillD, pickCells, putAt, bnd, slD, List.getElem?_cons_zero, List.getElem?_cons_succ, Mem.cell, Mem.row, cells_own, cells_ro]
    exact hq (some b) _ m2 ((h2.nul 4 (.own [] 5)).sel [0, 3, 4, 5] (by decide)) ⟨⟨none, od, rfl, fun _ => rfl, hd⟩, ⟨hw.1, hw.2, hw.3, hw.4, hw.5, hw.6, hw.7, hw.8⟩⟩ (fun e => by cases e)
  · rw [if_neg (by decide), if_neg (by decide)] at hq
    have hdl := hln.2 rfl
    simp -implicitDefEqProofs (disch := first | assumption | omega | fail) [rc43_3, rc43_2, wkB, retV, stabOk, dC, ev, fillD, pickCells, putAt, bnd, slD, List.getElem?_cons_zero, List.getElem?_cons_succ, Mem.cell, Mem.row, cells_own, cells_ro, t0, t6, t7, g2]
    refine SK_stS h 2 rfl (o := 7) (vs := [.slice none 0 0]) (cs' := rcC { s with buffer := [] } (.slice none 0 0) (slV od s.data.length 1)) (by simp [wkB, retV, stabOk, dC, ev, fillD, pickCells, putAt, bnd, slD, List.getElem?_cons_zero, List.getElem?_cons_succ, Mem.cell, Mem.row, cells_own, cells_ro]) (by simp [wkB, retV, stabOk, dC, ev, fillD, pickCells, putAt, bnd, slD, List.getElem?_cons_zero, List.getElem?_cons_succ, Mem.cell, Mem.row, cells_own, cells_ro]) (by simp [rcC]) rfl rfl (by simp [rcC, putAt]) fun m1 h1 _ => ?_
    have g10 := h1.get 0 rfl
    simp -implicitDefEqProofs (disch := first | assumption | omega | fail) [wkB, retV, stabOk, dC, ev, fillD, pickCells, putAt, bnd, slD, List.getElem?_cons_zero, List.getElem?_cons_succ, Mem.cell, Mem.row, cells_own, cells_ro, t0, t6, t7, g10]
    have h2 : Sep m0 V m1 (rcH ir none od { s with buffer := [] } ++ [byH ox d]) := (h1.nul 3 (.own [] 5)).sel [2, 3, 4, 1] (by decide)
    have hr := h2.rd (X := fun i => V i ∨ ids [byH ox d] i) 3 (ob := ox) (cs := d.map byteV) (e := 5) (sz := 1) (k := d.length) rfl (by simp) (fun e => by rw [hx e]; rfl) (fun i hi => .inr ⟨_, List.mem_singleton.2 rfl, hi⟩)
    refine c_rTake (h2.fr) (fun _ => rfl) hd ⟨hw.1, hw.2, hw.3, hw.4, hw.5, hw.6, hw.7, hw.8⟩ hr (by omega) (by show s.data.length + d.length ≤ _; omega) fun oo od' M hM hod hwt => ?_
    simp -implicitDefEqProofs (disch := first | assumption | omega | fail) [wkB, retV, stabOk, dC, ev, fillD, pickCells, putAt, bnd, slD, List.getElem?_cons_zero, List.getElem?_cons_succ, Mem.cell, Mem.row, cells_own, cells_ro]
    have h3 := h2.un hM
    exact hq (some oo) _ M (h3.sel [0, 1, 2, 3] (by decide)) ⟨⟨_, od', rfl, fun e => by rw [takeF_buf]; rfl, hod⟩, hwt⟩ (fun e => by cases e)
theorem c_rSca {w0 : World} {V : Nat → Prop} {m0 m : Mem} {ir : Nat} {ob od : Option Nat} {s : Rc} {fr : Fr} {Q : Value → Mem → Prop} (h : Sep m0 V m (rcH ir ob od s)) (hb : ob = none → s.buffer.length = 0) (hd : od = none → s.data.length = 0) (hw : RcW s)
    (hbig : s.data.length + 1024 ≤ 140737488355328) (hbb : s.buffer.length ≤ 140737488355328) (t0 : fr 0 = .pointer (some ⟨ir, 0, none⟩)) (hq : RcQ V m0 ir (scaF s) Q) :
    AbW Tryz.prog w0 rc43_4 (bodyA [.mv (.tmp 4)] Q) fr m := by
  have g0 := h.get 0 rfl
  simp only [rcC] at g0
  have key := fun m ox bx fr hh hx t0 t6 t7 => c_rSca3 (w0 := w0) (m := m) (ox := ox) (bx := bx) (fr := fr) (Q := Q) hh hb hd hx hw hbig t0 t6 t7 hq
  have hrB : RdV (fun i => i < m.next) m 1 (slV ob s.buffer.length 1) (s.buffer.map byteV) s.buffer.length := h.rd 1 rfl (by simp) hb (fun i hi => by subst hi; exact h.lt 1 rfl)
  simp -implicitDefEqProofs (disch := first | assumption | omega | fail) [rc43_4, wkB, retV, stabOk, dC, ev, fillD, pickCells, putAt, bnd, slD, List.getElem?_cons_zero, List.getElem?_cons_succ, Mem.cell, Mem.row, cells_own, cells_ro, t0, g0]
  refine AbW_sem_of ?_
  simp -implicitDefEqProofs (disch := first | assumption | omega | fail) [wkB, retV, stabOk, dC, ev, fillD, pickCells, putAt, bnd, slD, List.getElem?_cons_zero, List.getElem?_cons_succ, Mem.cell, Mem.row, cells_own, cells_ro, t0, g0]
  refine ⟨?_, ?_⟩
  · simp -implicitDefEqProofs (disch := first | assumption | omega | fail) [rc43_0, wkB, retV, stabOk, dC, ev, fillD, pickCells, putAt, bnd, slD, List.getElem?_cons_zero, List.getElem?_cons_succ, Mem.cell, Mem.row, cells_own, cells_ro, t0, g0]
    refine c_Scan h.pt hrB hbb fun ox m1 o1 ho1 hx1 => ?_
    have h1 := h.new (ob := ox) (E := .own ((scanF s.buffer s.crc).2.2.map byteV) 5) o1 ho1
    simp -implicitDefEqProofs (disch := first | assumption | omega | fail) [wkB, retV, stabOk, dC, ev, fillD, pickCells, putAt, bnd, slD, List.getElem?_cons_zero, List.getElem?_cons_succ, Mem.cell, Mem.row, cells_own, cells_ro]
    refine SK_alS h1 fun bx m2 h2 _ _ => ?_
    have g2 := h2.get 2 rfl
    simp only [rcC] at g2
    simp -implicitDefEqProofs (disch := first | assumption | omega | fail) [wkB, retV, stabOk, dC, ev, fillD, pickCells, putAt, bnd, slD, List.getElem?_cons_zero, List.getElem?_cons_succ, Mem.cell, Mem.row, cells_own, cells_ro, g2]
    refine SK_stS h2 0 rfl (o := 0) (vs := [.int .u8 ((scanF s.buffer s.crc).2.1.toNat : Int), slV ox (scanF s.buffer s.crc).2.2.length 1]) (cs' := [.int .u8 ((scanF s.buffer s.crc).2.1.toNat : Int), slV ox (scanF s.buffer s.crc).2.2.length 1]) (by simp [wkB, retV, stabOk, dC, ev, fillD, pickCells, putAt, bnd, slD, List.getElem?_cons_zero, List.getElem?_cons_succ, Mem.cell, Mem.row, cells_own, cells_ro]) (by simp [wkB, retV, stabOk, dC, ev, fillD, pickCells, putAt, bnd, slD, List.getElem?_cons_zero, List.getElem?_cons_succ, Mem.cell, Mem.row, cells_own, cells_ro]) (by simp) rfl (by simp only [List.all_cons, List.all_nil, oneC_slV, Bool.and_true]; rfl) rfl fun m3 h3 _ => ?_
    simp -implicitDefEqProofs (disch := first | assumption | omega | fail) [wkB, retV, stabOk, dC, ev, fillD, pickCells, putAt, bnd, slD, List.getElem?_cons_zero, List.getElem?_cons_succ, Mem.cell, Mem.row, cells_own, cells_ro]
    exact key m3 ox bx _ h3 hx1 (by simp [t0]) (by simp) (by simp)
  · simp -implicitDefEqProofs (disch := first | assumption | omega | fail) [rc43_1, wkB, retV, stabOk, dC, ev, fillD, pickCells, putAt, bnd, slD, List.getElem?_cons_zero, List.getElem?_cons_succ, Mem.cell, Mem.row, cells_own, cells_ro, t0, g0]
    refine SK_alS h fun bx m2 h2 _ _ => ?_
    have g2 := h2.get 1 rfl
    simp only [rcC] at g2
    have hrB2 : RdV (fun i => i < m2.next) m2 1 (slV ob s.buffer.length 1) (s.buffer.map byteV) s.buffer.length := h2.rd 2 rfl (by simp) hb (fun i hi => by subst hi; exact h2.lt 2 rfl)
    simp -implicitDefEqProofs (disch := first | assumption | omega | fail) [wkB, retV, stabOk, dC, ev, fillD, pickCells, putAt, bnd, slD, List.getElem?_cons_zero, List.getElem?_cons_succ, Mem.cell, Mem.row, cells_own, cells_ro, g2]
    refine c_Scan h2.pt hrB2 hbb fun ox m1 o1 ho1 hx1 => ?_
    have h1 := h2.new (ob := ox) (E := .own ((scanF s.buffer s.crc).2.2.map byteV) 5) o1 ho1
    simp -implicitDefEqProofs (disch := first | assumption | omega | fail) [wkB, retV, stabOk, dC, ev, fillD, pickCells, putAt, bnd, slD, List.getElem?_cons_zero, List.getElem?_cons_succ, Mem.cell, Mem.row, cells_own, cells_ro]
    refine SK_stS h1 1 rfl (o := 0) (vs := [.int .u8 ((scanF s.buffer s.crc).2.1.toNat : Int), slV ox (scanF s.buffer s.crc).2.2.length 1]) (cs' := [.int .u8 ((scanF s.buffer s.crc).2.1.toNat : Int), slV ox (scanF s.buffer s.crc).2.2.length 1]) (by simp [wkB, retV, stabOk, dC, ev, fillD, pickCells, putAt, bnd, slD, List.getElem?_cons_zero, List.getElem?_cons_succ, Mem.cell, Mem.row, cells_own, cells_ro]) (by simp [wkB, retV, stabOk, dC, ev, fillD, pickCells, putAt, bnd, slD, List.getElem?_cons_zero, List.getElem?_cons_succ, Mem.cell, Mem.row, cells_own, cells_ro]) (by simp) rfl (by simp only [List.all_cons, List.all_nil, oneC_slV, Bool.and_true]; rfl) rfl fun m3 h3 _ => ?_
    simp -implicitDefEqProofs (disch := first | assumption | omega | fail) [wkB, retV, stabOk, dC, ev, fillD, pickCells, putAt, bnd, slD, List.getElem?_cons_zero, List.getElem?_cons_succ, Mem.cell, Mem.row, cells_own, cells_ro]
    exact key m3 ox bx _ (h3.sel [1, 0, 2, 3, 4] (by decide)) hx1 (by simp [t0]) (by simp) (by simp)
end Go.Proofs.YtiapjjgmmiifmaaGreatDoor.Ab

set_option linter.unusedVariables false
set_option linter.unusedSimpArgs false
namespace Go.Proofs.YtiapjjgmmiifmaaGreatDoor.Ab
open Go Go.RowKit
set_option maxHeartbeats 4000000
set_option maxRecDepth 100000
theorem c_rPut {w0 : World} {V : Nat → Prop} {m : Mem} {H : HL} {ir : Nat} {s : Rc} {v : Value} {b : List UInt8} {Q : Value → Mem → Prop} (h : Sep m V m H) (hR : RcR H ir s) (hr : RdV V m 1 v (b.map byteV) b.length)
    (hbig : s.data.length + 1024 ≤ 140737488355328) (hbb : s.buffer.length + b.length ≤ 140737488355328) (hq : RcQ V m ir (rPutF s b) Q) :
    AbC Tryz.prog w0 43 [.pointer (some ⟨ir, 0, none⟩), v] m Q := by
  refine AbC_fn ok43 (by simp) ?_
  obtain ⟨⟨ob, od, rfl, hb, hd⟩, hw⟩ := hR
  have g0 := h.get 0 rfl
  simp only [rcC] at g0
  have hsl := hr.sl.slen
  unfold rPutF at hq
  cases hov : s.over with
  | true =>
    rw [if_pos (.inl hov)] at hq
    rw [hov] at g0
    simp -implicitDefEqProofs (disch := first | assumption | omega | fail) [rc43, ro43, wkB, retV, stabOk, dC, ev, fillD, pickCells, putAt, bnd, slD, List.getElem?_cons_zero, List.getElem?_cons_succ, Mem.cell, Mem.row, cells_own, cells_ro, g0]
    exact hq none _ m (h.non _) ⟨⟨ob, od, rfl, hb, hd⟩, hw⟩ fun _ => rfl
  | false =>
    rw [hov] at g0
    by_cases hb0 : b.length = 0
    · rw [if_pos (.inr hb0)] at hq
      rw [hb0] at hsl
      simp -implicitDefEqProofs (disch := first | assumption | omega | fail) [rc43, ro43, wkB, retV, stabOk, dC, ev, fillD, pickCells, putAt, bnd, slD, List.getElem?_cons_zero, List.getElem?_cons_succ, Mem.cell, Mem.row, cells_own, cells_ro, g0, hsl]
      exact hq none _ m (h.non _) ⟨⟨ob, od, rfl, hb, hd⟩, hw⟩ fun _ => rfl
    · rw [if_neg (fun hh => hh.elim (by rw [hov]; simp) hb0)] at hq
      have hl0 : ((b.length : Int) == 0) = false := beq_eq_false_iff_ne.2 (by omega)
      simp -implicitDefEqProofs (disch := first | assumption | omega | fail) [rc43, ro43, rc43_5, wkB, retV, stabOk, dC, ev, fillD, pickCells, putAt, bnd, slD, List.getElem?_cons_zero, List.getElem?_cons_succ, Mem.cell, Mem.row, cells_own, cells_ro, g0, hsl, hl0]
      refine SK_stS h 0 rfl (o := 3) (vs := [.int .i64 s.wait]) (cs' := rcC { s with left := s.wait } (slV ob s.buffer.length 1) (slV od s.data.length 1)) (by simp [wkB, retV, stabOk, dC, ev, fillD, pickCells, putAt, bnd, slD, List.getElem?_cons_zero, List.getElem?_cons_succ, Mem.cell, Mem.row, cells_own, cells_ro]) (by simp [wkB, retV, stabOk, dC, ev, fillD, pickCells, putAt, bnd, slD, List.getElem?_cons_zero, List.getElem?_cons_succ, Mem.cell, Mem.row, cells_own, cells_ro]) (by simp [rcC]) rfl rfl (by simp [rcC, putAt]) fun m1 h1 _ => ?_
      have g1 := h1.get 0 rfl
      simp only [rcC] at g1
      have hr1 := (hr.sep h1).sl
      simp -implicitDefEqProofs (disch := first | assumption | omega | fail) [wkB, retV, stabOk, dC, ev, fillD, pickCells, putAt, bnd, slD, List.getElem?_cons_zero, List.getElem?_cons_succ, Mem.cell, Mem.row, cells_own, cells_ro, g1]
      refine SK_apS h1 1 (n := s.buffer.length) (k := b.length) (ys := b.map byteV) rfl (by simp [wkB, retV, stabOk, dC, ev, fillD, pickCells, putAt, bnd, slD, List.getElem?_cons_zero, List.getElem?_cons_succ, Mem.cell, Mem.row, cells_own, cells_ro]) (by simp) hb (by simp [wkB, retV, stabOk, dC, ev, fillD, pickCells, putAt, bnd, slD, List.getElem?_cons_zero, List.getElem?_cons_succ, Mem.cell, Mem.row, cells_own, cells_ro]; exact hr1.elems) (by simp [wkB, retV, stabOk, dC, ev, fillD, pickCells, putAt, bnd, slD, List.getElem?_cons_zero, List.getElem?_cons_succ, Mem.cell, Mem.row, cells_own, cells_ro]; exact hr1.lenV) (byteV_oneC _) (by omega) (by unfold maxLen; omega) (by simp) fun ob2 m2 h2 hn2 _ => ?_
      simp -implicitDefEqProofs (disch := first | assumption | omega | fail) [wkB, retV, stabOk, dC, ev, fillD, pickCells, putAt, bnd, slD, List.getElem?_cons_zero, List.getElem?_cons_succ, Mem.cell, Mem.row, cells_own, cells_ro]
      refine SK_stS h2 0 rfl (o := 7) (vs := [slV ob2 (s.buffer.length + b.length) 1]) (cs' := rcC { s with left := s.wait } (slV ob2 (s.buffer.length + b.length) 1) (slV od s.data.length 1)) (by simp [wkB, retV, stabOk, dC, ev, fillD, pickCells, putAt, bnd, slD, List.getElem?_cons_zero, List.getElem?_cons_succ, Mem.cell, Mem.row, cells_own, cells_ro]) (by simp [wkB, retV, stabOk, dC, ev, fillD, pickCells, putAt, bnd, slD, List.getElem?_cons_zero, List.getElem?_cons_succ, Mem.cell, Mem.row, cells_own, cells_ro]) (by simp [rcC]) rfl (by simp [oneC_slV]) (by simp [rcC, putAt]) fun m3 h3 _ => ?_
      obtain ⟨s1, hs1⟩ : ∃ s1 : Rc, { s with left := s.wait, buffer := s.buffer ++ b } = s1 := ⟨_, rfl⟩
      have h3' : Sep m V m3 (rcH ir ob2 od s1) := by
        subst hs1
        have e6 : s.buffer.map byteV ++ b.map byteV = (s.buffer ++ b).map byteV := by simp
        have := h3
        simp only [rcH, byH, List.set, List.length_append] at this ⊢
        rw [e6] at this
        exact this
      have hw1 : RcW s1 := by subst hs1; exact ⟨hw.1, hw.2, hw.3, hw.4, hw.1, hw.2, hw.7, hw.8⟩
      have hbl : s1.buffer.length = s.buffer.length + b.length := by subst hs1; simp
      have hdl : s1.data = s.data := by subst hs1; rfl
      rw [hs1] at hq
      clear h3 hs1
      rw [← hdl] at hd hbig
      have hn1 : 0 < s1.buffer.length := by omega
      cases ob2 with
      | none => exact absurd (hn2 rfl) (by omega)
      | some k =>
        have hn2' : (some k : Option Nat) = none → s1.buffer.length = 0 := fun e => by cases e
        have g3 := h3'.get 0 rfl
        have gk := h3'.get 1 rfl
        simp only [rcC] at g3
        have hc0 := byte_at (b := s1.buffer) (k := 0) hn1
        simp only [byteV] at hc0
        have hi0 : sidx 1 (slV (some k) s1.buffer.length 1) (.int .i64 0) = some (.pointer (some ⟨k, 0, none⟩)) := by simpa [slV_some] using sidx_at (b := k) (o := 0) (n := s1.buffer.length) (c := 1) (j := 0) (sz := 1) (k := .i64) hn1
        have hl3 : slen (slV (some k) s1.buffer.length 1) = some (.int .i64 (s1.buffer.length : Nat)) := rfl
        obtain ⟨c0, hcc⟩ : ∃ c0, s1.buffer.getD 0 0 = c0 := ⟨_, rfl⟩
        have e4 : ((c0.toNat : Int) == 4) = decide (c0 = 4) := b8 c0 4 (by omega)
        have e24 : ((c0.toNat : Int) == 24) = decide (c0 = 24) := b8 c0 24 (by omega)
        unfold rPut1 at hq
        rw [hcc] at hq hc0
        obtain ⟨L, hL⟩ : ∃ L, s1.buffer.map byteV = L := ⟨_, rfl⟩
        have hc1 : 1 < s1.buffer.length → L[1]? = some (.int .u8 ((s1.buffer.getD 1 0).toNat : Int)) := fun hlt => by rw [← hL]; exact byte_at hlt
        rw [hL] at hc0 gk
        have fin : ∀ fr, fr 0 = .pointer (some ⟨ir, 0, none⟩) → RcQ V m ir (scaF s1) Q → AbW Tryz.prog w0 rc43_4 (bodyA [.mv (.tmp 4)] Q) fr m3 := fun fr t0 hq => c_rSca h3' hn2' hd hw1 hbig (by omega) t0 hq
        by_cases h4 : c0 = 4
        · subst h4
          have e4 : (((4 : UInt8).toNat : Int) == 4) = true := rfl
          have e24 : (((4 : UInt8).toNat : Int) == 24) = false := rfl
          cases hcl : s1.close with
          | true =>
            rw [if_pos ⟨rfl, hcl⟩] at hq
            rw [hcl] at g3
            simp -implicitDefEqProofs (disch := first | assumption | omega | fail) [wkB, retV, stabOk, dC, ev, fillD, pickCells, putAt, bnd, slD, List.getElem?_cons_zero, List.getElem?_cons_succ, Mem.cell, Mem.row, cells_own, cells_ro, g3, hi0, gk, hc0, getL1 hc0, e4]
            refine SK_bslS h3' (cs := ([6] : List UInt8).map byteV) (by simp [fillD, pickCells, wkB, retV, stabOk, dC, ev, fillD, pickCells, putAt, bnd, slD, List.getElem?_cons_zero, List.getElem?_cons_succ, Mem.cell, Mem.row, cells_own, cells_ro, byteV]) (by simp) fun x m4 h4 _ _ => ?_
            simp -implicitDefEqProofs (disch := first | assumption | omega | fail) [wkB, retV, stabOk, dC, ev, fillD, pickCells, putAt, bnd, slD, List.getElem?_cons_zero, List.getElem?_cons_succ, Mem.cell, Mem.row, cells_own, cells_ro]
            refine c_rEnd (s := s1) (e := 0) h4 1 rfl fun m5 h5 => ?_
            simp -implicitDefEqProofs (disch := first | assumption | omega | fail) [wkB, retV, stabOk, dC, ev, fillD, pickCells, putAt, bnd, slD, List.getElem?_cons_zero, List.getElem?_cons_succ, Mem.cell, Mem.row, cells_own, cells_ro]
            exact hq (some x) _ m5 h5 ⟨⟨some k, od, rfl, hn2', hd⟩, ⟨hw1.1, hw1.2, hw1.3, hw1.4, hw1.5, hw1.6, hw1.7, hw1.8⟩⟩ (fun e => by cases e)
          | false =>
            rw [if_neg (fun hh => by rw [hcl] at hh; cases hh.2), if_neg (fun hh => absurd hh.1 (by decide)), if_neg (fun hh => absurd hh.1 (by decide))] at hq
            rw [hcl] at g3
            simp -implicitDefEqProofs (disch := first | assumption | omega | fail) [wkB, retV, stabOk, dC, ev, fillD, pickCells, putAt, bnd, slD, List.getElem?_cons_zero, List.getElem?_cons_succ, Mem.cell, Mem.row, cells_own, cells_ro, g3, hi0, gk, hc0, getL1 hc0, e4, e24]
            exact fin _ (by simp [frA_at]) hq
        · by_cases h24 : c0 = 24
          · subst h24
            have e4 : (((24 : UInt8).toNat : Int) == 4) = false := rfl
            have e24 : (((24 : UInt8).toNat : Int) == 24) = true := rfl
            rw [if_neg (fun hh => absurd hh.1 (by decide))] at hq
            by_cases hl1 : 1 < s1.buffer.length
            · have hl1' : (1 : Int) < (s1.buffer.length : Int) := by omega
              have hl1n : ((s1.buffer.length : Int) == 1) = false := beq_eq_false_iff_ne.2 (by omega)
              have hi1 : sidx 1 (slV (some k) s1.buffer.length 1) (.int .i64 1) = some (.pointer (some ⟨k, 1, none⟩)) := by simpa [slV_some] using sidx_at (b := k) (o := 0) (n := s1.buffer.length) (c := 1) (j := 1) (sz := 1) (k := .i64) hl1
              have hc1 := hc1 hl1
              obtain ⟨c1, hcc1⟩ : ∃ c1, s1.buffer.getD 1 0 = c1 := ⟨_, rfl⟩
              rw [hcc1] at hq hc1
              have f24 : ((c1.toNat : Int) == 24) = decide (c1 = 24) := b8 c1 24 (by omega)
              by_cases h5 : c1 = 24
              · subst h5
                have f24 : (((24 : UInt8).toNat : Int) == 24) = true := rfl
                rw [if_pos ⟨rfl, hl1, rfl⟩] at hq
                simp -implicitDefEqProofs (disch := first | assumption | omega | fail) [wkB, retV, stabOk, dC, ev, fillD, pickCells, putAt, bnd, slD, List.getElem?_cons_zero, List.getElem?_cons_succ, Mem.cell, Mem.row, cells_own, cells_ro, g3, hi0, gk, hc0, getL1 hc0, e4, e24, hl3, hl1', hi1, hc1, getL1 hc1]
                refine c_rEnd (s := s1) (e := 9) h3' 0 rfl fun m5 h5 => ?_
                simp -implicitDefEqProofs (disch := first | assumption | omega | fail) [wkB, retV, stabOk, dC, ev, fillD, pickCells, putAt, bnd, slD, List.getElem?_cons_zero, List.getElem?_cons_succ, Mem.cell, Mem.row, cells_own, cells_ro]
                exact hq none _ m5 (h5.non _) ⟨⟨some k, od, rfl, hn2', hd⟩, ⟨hw1.1, hw1.2, hw1.3, hw1.4, hw1.5, hw1.6, hw1.7, hw1.8⟩⟩ (fun e => rfl)
              · have f24 : ((c1.toNat : Int) == 24) = false := by rw [f24]; simp [h5]
                rw [if_neg (fun hh => h5 hh.2.2), if_neg (fun hh => by omega)] at hq
                simp -implicitDefEqProofs (disch := first | assumption | omega | fail) [wkB, retV, stabOk, dC, ev, fillD, pickCells, putAt, bnd, slD, List.getElem?_cons_zero, List.getElem?_cons_succ, Mem.cell, Mem.row, cells_own, cells_ro, g3, hi0, gk, hc0, getL1 hc0, e4, e24, hl3, hl1', hi1, hc1, getL1 hc1, f24, hl1n]
                exact fin _ (by simp [frA_at]) hq
            · have hl1' : ¬ (1 : Int) < (s1.buffer.length : Int) := by omega
              have hl1n : ((s1.buffer.length : Int) == 1) = true := beq_iff_eq.2 (by omega)
              rw [if_neg (fun hh => hl1 hh.2.1), if_pos ⟨rfl, by omega⟩] at hq
              simp -implicitDefEqProofs (disch := first | assumption | omega | fail) [wkB, retV, stabOk, dC, ev, fillD, pickCells, putAt, bnd, slD, List.getElem?_cons_zero, List.getElem?_cons_succ, Mem.cell, Mem.row, cells_own, cells_ro, g3, hi0, gk, hc0, getL1 hc0, e4, e24, hl3, hl1', hl1n]
              exact hq none _ m3 (h3'.non _) ⟨⟨some k, od, rfl, hn2', hd⟩, hw1⟩ (fun _ => rfl)
          · have e4 : ((c0.toNat : Int) == 4) = false := by rw [e4]; simp [h4]
            have e24 : ((c0.toNat : Int) == 24) = false := by rw [e24]; simp [h24]
            rw [if_neg (fun hh => h4 hh.1), if_neg (fun hh => h24 hh.1), if_neg (fun hh => h24 hh.1)] at hq
            simp -implicitDefEqProofs (disch := first | assumption | omega | fail) [wkB, retV, stabOk, dC, ev, fillD, pickCells, putAt, bnd, slD, List.getElem?_cons_zero, List.getElem?_cons_succ, Mem.cell, Mem.row, cells_own, cells_ro, g3, hi0, gk, hc0, getL1 hc0, e4, e24]
            exact fin _ (by simp [frA_at]) hq
end Go.Proofs.YtiapjjgmmiifmaaGreatDoor.Ab

set_option linter.unusedVariables false
set_option linter.unusedSimpArgs false
namespace Go.Proofs.YtiapjjgmmiifmaaGreatDoor.Ab
open Go Go.RowKit
set_option maxHeartbeats 4000000
set_option maxRecDepth 100000
def rTickF (s : Rc) : Rc × List UInt8 :=
  if s.over = true then (s, [])
  else if 1 < s.left then ({ s with left := s.left - 1 }, [])
  else if s.begun = true then ({ s with left := s.wait, buffer := [] }, [21])
  else if s.tries = 0 then ({ s with left := s.wait, buffer := [], over := true, err := 10 }, [24, 24])
  else ({ s with left := s.wait, buffer := [], tries := s.tries - 1 }, [if s.crc = true then 67 else 21])
theorem c_rAsk {w0 : World} {V : Nat → Prop} {m0 m : Mem} {l : HL} {ir : Nat} {s : Rc} {vb vd : Value} {Q : Value → Mem → Prop} (h : Sep m0 V m l) (q : Nat) (hl : l[q]? = some (some ir, .own (rcC s vb vd) 106))
    (hq : Q (.int .u8 (((if s.crc = true ∧ s.begun = false then 67 else 21 : UInt8)).toNat : Int)) m) : AbC Tryz.prog w0 55 [.pointer (some ⟨ir, 0, none⟩)] m Q := by
  refine AbC_fn ok55 (by simp) ?_
  have g0 := h.get q hl
  simp only [rcC] at g0
  cases hc : s.crc
  all_goals cases hb : s.begun
  all_goals
    rw [hc, hb] at hq g0
    simp -implicitDefEqProofs (disch := first | assumption | omega | fail) [rc55, ro55, rc55_0, wkB, retV, stabOk, dC, ev, fillD, pickCells, putAt, bnd, slD, List.getElem?_cons_zero, List.getElem?_cons_succ, Mem.cell, Mem.row, cells_own, cells_ro, g0]
    exact hq
theorem c_rTick {w0 : World} {V : Nat → Prop} {m : Mem} {H : HL} {ir : Nat} {s : Rc} {Q : Value → Mem → Prop} (h : Sep m V m H) (hR : RcR H ir s) (hq : RcQ V m ir (rTickF s) Q) :
    AbC Tryz.prog w0 41 [.pointer (some ⟨ir, 0, none⟩)] m Q := by
  refine AbC_fn ok41 (by simp) ?_
  obtain ⟨⟨ob, od, rfl, hb, hd⟩, hw⟩ := hR
  have g0 := h.get 0 rfl
  simp only [rcC] at g0
  unfold rTickF at hq
  cases hov : s.over with
  | true =>
    rw [if_pos hov] at hq
    rw [hov] at g0
    simp -implicitDefEqProofs (disch := first | assumption | omega | fail) [rc41, ro41, wkB, retV, stabOk, dC, ev, fillD, pickCells, putAt, bnd, slD, List.getElem?_cons_zero, List.getElem?_cons_succ, Mem.cell, Mem.row, cells_own, cells_ro, g0]
    exact hq none _ m (h.non _) ⟨⟨ob, od, rfl, hb, hd⟩, hw⟩ fun _ => rfl
  | false =>
    rw [if_neg (by rw [hov]; simp)] at hq
    rw [hov] at g0
    have hl1 := hw.l1
    have hl2 := hw.l2
    have w1 : IntKind.i64.wrap (s.left - 1) = s.left - 1 := w64 (by omega)
    simp -implicitDefEqProofs (disch := first | assumption | omega | fail) [rc41, ro41, rc41_3, wkB, retV, stabOk, dC, ev, fillD, pickCells, putAt, bnd, slD, List.getElem?_cons_zero, List.getElem?_cons_succ, Mem.cell, Mem.row, cells_own, cells_ro, g0, w1]
    refine SK_stS h 0 rfl (o := 3) (vs := [.int .i64 (s.left - 1)]) (cs' := rcC { s with left := s.left - 1 } (slV ob s.buffer.length 1) (slV od s.data.length 1)) (by simp [wkB, retV, stabOk, dC, ev, fillD, pickCells, putAt, bnd, slD, List.getElem?_cons_zero, List.getElem?_cons_succ, Mem.cell, Mem.row, cells_own, cells_ro]) (by simp [wkB, retV, stabOk, dC, ev, fillD, pickCells, putAt, bnd, slD, List.getElem?_cons_zero, List.getElem?_cons_succ, Mem.cell, Mem.row, cells_own, cells_ro]) (by simp [rcC]) rfl rfl (by simp [rcC, putAt]) fun m1 h1 _ => ?_
    have g1 := h1.get 0 rfl
    simp only [rcC] at g1
    by_cases hl : 1 < s.left
    · rw [if_pos hl] at hq
      simp -implicitDefEqProofs (disch := first | assumption | omega | fail) [wkB, retV, stabOk, dC, ev, fillD, pickCells, putAt, bnd, slD, List.getElem?_cons_zero, List.getElem?_cons_succ, Mem.cell, Mem.row, cells_own, cells_ro, g1, hl]
      exact hq none _ m1 (h1.non _) ⟨⟨ob, od, rfl, hb, hd⟩, ⟨hw.1, hw.2, hw.3, hw.4, by show 1 ≤ s.left - 1; omega, by show s.left - 1 ≤ 99; omega, hw.7, hw.8⟩⟩ fun _ => rfl
    · rw [if_neg hl] at hq
      simp -implicitDefEqProofs (disch := first | assumption | omega | fail) [wkB, retV, stabOk, dC, ev, fillD, pickCells, putAt, bnd, slD, List.getElem?_cons_zero, List.getElem?_cons_succ, Mem.cell, Mem.row, cells_own, cells_ro, g1, hl, rc41_2]
      refine SK_stS h1 0 rfl (o := 3) (vs := [.int .i64 s.wait]) (cs' := rcC { s with left := s.wait } (slV ob s.buffer.length 1) (slV od s.data.length 1)) (by simp [wkB, retV, stabOk, dC, ev, fillD, pickCells, putAt, bnd, slD, List.getElem?_cons_zero, List.getElem?_cons_succ, Mem.cell, Mem.row, cells_own, cells_ro]) (by simp [wkB, retV, stabOk, dC, ev, fillD, pickCells, putAt, bnd, slD, List.getElem?_cons_zero, List.getElem?_cons_succ, Mem.cell, Mem.row, cells_own, cells_ro]) (by simp [rcC]) rfl rfl (by simp [rcC, putAt]) fun m2 h2 _ => ?_
      simp -implicitDefEqProofs (disch := first | assumption | omega | fail) [wkB, retV, stabOk, dC, ev, fillD, pickCells, putAt, bnd, slD, List.getElem?_cons_zero, List.getElem?_cons_succ, Mem.cell, Mem.row, cells_own, cells_ro]
      refine SK_stS h2 0 rfl (o := 7) (vs := [.slice none 0 0]) (cs' := rcC { s with left := s.wait, buffer := [] } (.slice none 0 0) (slV od s.data.length 1)) (by simp [wkB, retV, stabOk, dC, ev, fillD, pickCells, putAt, bnd, slD, List.getElem?_cons_zero, List.getElem?_cons_succ, Mem.cell, Mem.row, cells_own, cells_ro]) (by simp [wkB, retV, stabOk, dC, ev, fillD, pickCells, putAt, bnd, slD, List.getElem?_cons_zero, List.getElem?_cons_succ, Mem.cell, Mem.row, cells_own, cells_ro]) (by simp [rcC]) rfl rfl (by simp [rcC, putAt]) fun m3 h3 _ => ?_
      have h3 : Sep m V m3 (rcH ir none od { s with left := s.wait, buffer := [] }) := h3.nul 1 (.own [] 5)
      have g3 := h3.get 0 rfl
      simp only [rcC] at g3
      cases hbg : s.begun with
      | true =>
        rw [if_pos hbg] at hq
        rw [hbg] at g3
        simp -implicitDefEqProofs (disch := first | assumption | omega | fail) [wkB, retV, stabOk, dC, ev, fillD, pickCells, putAt, bnd, slD, List.getElem?_cons_zero, List.getElem?_cons_succ, Mem.cell, Mem.row, cells_own, cells_ro, g3, rc41_1, rc41_0]
        refine c_rAsk (s := { s with left := s.wait, buffer := [] }) h3 0 rfl ?_
        rw [if_neg (fun hh => by have := hh.2; rw [hbg] at this; cases this)]
        simp -implicitDefEqProofs (disch := first | assumption | omega | fail) [wkB, retV, stabOk, dC, ev, fillD, pickCells, putAt, bnd, slD, List.getElem?_cons_zero, List.getElem?_cons_succ, Mem.cell, Mem.row, cells_own, cells_ro]
        refine SK_bslS h3 (cs := ([21] : List UInt8).map byteV) (by simp [fillD, pickCells, wkB, retV, stabOk, dC, ev, fillD, pickCells, putAt, bnd, slD, List.getElem?_cons_zero, List.getElem?_cons_succ, Mem.cell, Mem.row, cells_own, cells_ro, byteV]) (by simp) fun x m4 h4 _ _ => ?_
        simp -implicitDefEqProofs (disch := first | assumption | omega | fail) [wkB, retV, stabOk, dC, ev, fillD, pickCells, putAt, bnd, slD, List.getElem?_cons_zero, List.getElem?_cons_succ, Mem.cell, Mem.row, cells_own, cells_ro]
        exact hq (some x) _ m4 h4 ⟨⟨none, od, rfl, fun _ => rfl, hd⟩, ⟨hw.1, hw.2, hw.3, hw.4, hw.1, hw.2, hw.7, hw.8⟩⟩ (fun e => by cases e)
      | false =>
        rw [if_neg (by rw [hbg]; simp)] at hq
        rw [hbg] at g3
        by_cases ht : s.tries = 0
        · rw [if_pos ht] at hq
          simp -implicitDefEqProofs (disch := first | assumption | omega | fail) [wkB, retV, stabOk, dC, ev, fillD, pickCells, putAt, bnd, slD, List.getElem?_cons_zero, List.getElem?_cons_succ, Mem.cell, Mem.row, cells_own, cells_ro, g3, ht]
          refine SK_bslS h3 (cs := ([24, 24] : List UInt8).map byteV) (by simp [fillD, pickCells, wkB, retV, stabOk, dC, ev, fillD, pickCells, putAt, bnd, slD, List.getElem?_cons_zero, List.getElem?_cons_succ, Mem.cell, Mem.row, cells_own, cells_ro, byteV]) (by simp) fun x m4 h4 _ _ => ?_
          simp -implicitDefEqProofs (disch := first | assumption | omega | fail) [wkB, retV, stabOk, dC, ev, fillD, pickCells, putAt, bnd, slD, List.getElem?_cons_zero, List.getElem?_cons_succ, Mem.cell, Mem.row, cells_own, cells_ro]
          refine c_rEnd (s := { s with left := s.wait, buffer := [] }) (e := 10) h4 1 rfl fun m5 h5 => ?_
          simp -implicitDefEqProofs (disch := first | assumption | omega | fail) [wkB, retV, stabOk, dC, ev, fillD, pickCells, putAt, bnd, slD, List.getElem?_cons_zero, List.getElem?_cons_succ, Mem.cell, Mem.row, cells_own, cells_ro]
          exact hq (some x) _ m5 h5 ⟨⟨none, od, rfl, fun _ => rfl, hd⟩, ⟨hw.1, hw.2, hw.3, hw.4, hw.1, hw.2, hw.7, hw.8⟩⟩ (fun e => by cases e)
        · rw [if_neg ht] at hq
          have ht' : (s.tries == 0) = false := beq_eq_false_iff_ne.2 ht
          have ht1 := hw.t1
          have ht2 := hw.t2
          have w2 : IntKind.i64.wrap (s.tries - 1) = s.tries - 1 := w64 (by omega)
          simp -implicitDefEqProofs (disch := first | assumption | omega | fail) [wkB, retV, stabOk, dC, ev, fillD, pickCells, putAt, bnd, slD, List.getElem?_cons_zero, List.getElem?_cons_succ, Mem.cell, Mem.row, cells_own, cells_ro, g3, ht', rc41_1, w2]
          refine SK_stS h3 0 rfl (o := 2) (vs := [.int .i64 (s.tries - 1)]) (cs' := rcC { s with left := s.wait, buffer := [], tries := s.tries - 1 } (.slice none 0 0) (slV od s.data.length 1)) (by simp [wkB, retV, stabOk, dC, ev, fillD, pickCells, putAt, bnd, slD, List.getElem?_cons_zero, List.getElem?_cons_succ, Mem.cell, Mem.row, cells_own, cells_ro]) (by simp [wkB, retV, stabOk, dC, ev, fillD, pickCells, putAt, bnd, slD, List.getElem?_cons_zero, List.getElem?_cons_succ, Mem.cell, Mem.row, cells_own, cells_ro]) (by simp [rcC]) rfl rfl (by simp [rcC, putAt]; rfl) fun m4 h4 _ => ?_
          simp -implicitDefEqProofs (disch := first | assumption | omega | fail) [wkB, retV, stabOk, dC, ev, fillD, pickCells, putAt, bnd, slD, List.getElem?_cons_zero, List.getElem?_cons_succ, Mem.cell, Mem.row, cells_own, cells_ro, rc41_0]
          refine c_rAsk (s := { s with left := s.wait, buffer := [], tries := s.tries - 1 }) h4 0 rfl ?_
          have e9 : (if ({ s with left := s.wait, buffer := [], tries := s.tries - 1 } : Rc).crc = true ∧ ({ s with left := s.wait, buffer := [], tries := s.tries - 1 } : Rc).begun = false then (67 : UInt8) else 21) = if s.crc = true then 67 else 21 := by simp [hbg]
          rw [e9]
          generalize (if s.crc = true then (67 : UInt8) else 21) = cc at *
          simp -implicitDefEqProofs (disch := first | assumption | omega | fail) [wkB, retV, stabOk, dC, ev, fillD, pickCells, putAt, bnd, slD, List.getElem?_cons_zero, List.getElem?_cons_succ, Mem.cell, Mem.row, cells_own, cells_ro]
          refine SK_bslS h4 (cs := ([cc] : List UInt8).map byteV) (by simp [fillD, pickCells, wkB, retV, stabOk, dC, ev, fillD, pickCells, putAt, bnd, slD, List.getElem?_cons_zero, List.getElem?_cons_succ, Mem.cell, Mem.row, cells_own, cells_ro, byteV]) (by simp) fun x m5 h5 _ _ => ?_
          simp -implicitDefEqProofs (disch := first | assumption | omega | fail) [wkB, retV, stabOk, dC, ev, fillD, pickCells, putAt, bnd, slD, List.getElem?_cons_zero, List.getElem?_cons_succ, Mem.cell, Mem.row, cells_own, cells_ro]
          exact hq (some x) _ m5 h5 ⟨⟨none, od, rfl, fun _ => rfl, hd⟩, ⟨hw.1, hw.2, by show 0 ≤ s.tries - 1; omega, by show s.tries - 1 ≤ 9; omega, hw.1, hw.2, hw.7, hw.8⟩⟩ (fun e => by cases e)
theorem c_rDone {w0 : World} {V : Nat → Prop} {m0 m : Mem} {l : HL} {ir : Nat} {s : Rc} {vb vd : Value} {Q : Value → Mem → Prop} (h : Sep m0 V m l) (q : Nat) (hl : l[q]? = some (some ir, .own (rcC s vb vd) 106))
    (hq : Q (.tuple ⟨[.bool s.over, errV s.err]⟩) m) : AbC Tryz.prog w0 51 [.pointer (some ⟨ir, 0, none⟩)] m Q := by
  refine AbC_fn ok51 (by simp) ?_
  have g0 := h.get q hl
  simp only [rcC] at g0
  simp -implicitDefEqProofs (disch := first | assumption | omega | fail) [rc51, ro51, wkB, retV, stabOk, dC, ev, fillD, pickCells, putAt, bnd, slD, List.getElem?_cons_zero, List.getElem?_cons_succ, Mem.cell, Mem.row, cells_own, cells_ro, g0]
  exact hq
theorem c_rData {w0 : World} {V : Nat → Prop} {m : Mem} {H : HL} {ir : Nat} {s : Rc} {Q : Value → Mem → Prop} (h : Sep m V m H) (hR : RcR H ir s) (hbig : s.data.length ≤ 140737488355328)
    (hq : ∀ oo M, Sep m V M (byH oo s.data :: H) → (oo = none → s.data.length = 0) → Q (slV oo s.data.length 1) M) : AbC Tryz.prog w0 52 [.pointer (some ⟨ir, 0, none⟩)] m Q := by
  refine AbC_fn ok52 (by simp) ?_
  obtain ⟨⟨ob, od, rfl, hb, hd⟩, hw⟩ := hR
  have g0 := h.get 0 rfl
  simp only [rcC] at g0
  have hO := (h.slO 2 (k := s.data.length) (sz := 1) rfl (by simp) hd).read
  simp -implicitDefEqProofs (disch := first | assumption | omega | fail) [rc52, ro52, wkB, retV, stabOk, dC, ev, fillD, pickCells, putAt, bnd, slD, List.getElem?_cons_zero, List.getElem?_cons_succ, Mem.cell, Mem.row, cells_own, cells_ro, g0]
  refine SK_nwS h (k := s.data.length) (ys := s.data.map byteV) (by simp [wkB, retV, stabOk, dC, ev, fillD, pickCells, putAt, bnd, slD, List.getElem?_cons_zero, List.getElem?_cons_succ, Mem.cell, Mem.row, cells_own, cells_ro]) (by simp [wkB, retV, stabOk, dC, ev, fillD, pickCells, putAt, bnd, slD, List.getElem?_cons_zero, List.getElem?_cons_succ, Mem.cell, Mem.row, cells_own, cells_ro]; exact hO.elems) (by simp [wkB, retV, stabOk, dC, ev, fillD, pickCells, putAt, bnd, slD, List.getElem?_cons_zero, List.getElem?_cons_succ, Mem.cell, Mem.row, cells_own, cells_ro]; exact hO.lenV) (byteV_oneC _) (by omega) (by unfold maxLen; omega) (by simp) fun oo m1 h1 hn1 _ => ?_
  simp -implicitDefEqProofs (disch := first | assumption | omega | fail) [wkB, retV, stabOk, dC, ev, fillD, pickCells, putAt, bnd, slD, List.getElem?_cons_zero, List.getElem?_cons_succ, Mem.cell, Mem.row, cells_own, cells_ro]
  exact hq oo m1 h1 hn1
def clampI (lo hi x : Int) : Int := if lo < (if hi < x then hi else x) then (if hi < x then hi else x) else lo
def rOf (tr wt : Int) (n : UInt8) (crc close : Bool) (many : Int) : Rc := ⟨crc, clampI 1 99 wt, clampI 1 9 tr, 1, n, false, close, [], [], 0, if 1 < many then many else 1, false, 0⟩
theorem c_rOf {w0 : World} {V : Nat → Prop} {m0 m : Mem} {l : HL} {tr wt many : Int} {n : UInt8} {crc close : Bool} {Q : Value → Mem → Prop} (h : Sep m0 V m l)
    (hq : ∀ ir H M, Sep m0 V M (H ++ l) → RcR H ir (rOf tr wt n crc close many) → Q (.pointer (some ⟨ir, 0, none⟩)) M) :
    AbC Tryz.prog w0 61 [.agg ⟨[.int .i64 tr, .int .i64 wt]⟩, .int .u8 (n.toNat : Int), .bool crc, .bool close, .int .i64 many] m Q := by
  refine AbC_fn ok61 (by simp) ?_
  simp -implicitDefEqProofs (disch := first | assumption | omega | fail) [rc61, ro61, wkB, retV, stabOk, dC, ev, fillD, pickCells, putAt, bnd, slD, List.getElem?_cons_zero, List.getElem?_cons_succ, Mem.cell, Mem.row, cells_own, cells_ro]
  refine SK_bxS h (cs := [.int .i64 tr, .int .i64 wt]) (by simp [wkB, retV, stabOk, dC, ev, fillD, pickCells, putAt, bnd, slD, List.getElem?_cons_zero, List.getElem?_cons_succ, Mem.cell, Mem.row, cells_own, cells_ro]) fun B m1 h1 _ _ => ?_
  have g1 := h1.get 0 rfl
  simp -implicitDefEqProofs (disch := first | assumption | omega | fail) [wkB, retV, stabOk, dC, ev, fillD, pickCells, putAt, bnd, slD, List.getElem?_cons_zero, List.getElem?_cons_succ, Mem.cell, Mem.row, cells_own, cells_ro, g1]
  refine SK_bxS h1 (cs := rcC (rOf tr wt n crc close many) (.slice none 0 0) (.slice none 0 0)) (by simp [wkB, retV, stabOk, dC, ev, fillD, pickCells, putAt, bnd, slD, List.getElem?_cons_zero, List.getElem?_cons_succ, Mem.cell, Mem.row, cells_own, cells_ro, rcC, rOf, clampI]; rfl) fun ir m2 h2 _ _ => ?_
  simp -implicitDefEqProofs (disch := first | assumption | omega | fail) [wkB, retV, stabOk, dC, ev, fillD, pickCells, putAt, bnd, slD, List.getElem?_cons_zero, List.getElem?_cons_succ, Mem.cell, Mem.row, cells_own, cells_ro]
  have h3 : Sep m0 V m2 (rcH ir none none (rOf tr wt n crc close many) ++ l) := ((((h2.del 1).non (.own [] 5)).non (.own [] 5)).perm (by
    show List.Perm ((none, .own [] 5) :: (none, .own [] 5) :: (some ir, .own (rcC (rOf tr wt n crc close many) (.slice none 0 0) (.slice none 0 0)) 106) :: l) ((some ir, .own (rcC (rOf tr wt n crc close many) (.slice none 0 0) (.slice none 0 0)) 106) :: (none, .own [] 5) :: (none, .own [] 5) :: l)
    exact ((List.Perm.swap _ _ _).cons _).trans (List.Perm.swap _ _ _) |>.trans ((List.Perm.swap _ _ _).cons _)))
  have a1 : 1 ≤ clampI 1 99 wt ∧ clampI 1 99 wt ≤ 99 := by unfold clampI; split <;> split at * <;> omega
  have a2 : 1 ≤ clampI 1 9 tr ∧ clampI 1 9 tr ≤ 9 := by unfold clampI; split <;> split at * <;> omega
  exact hq ir _ m2 h3 ⟨⟨none, none, rfl, fun _ => rfl, fun _ => rfl⟩, ⟨a1.1, a1.2, by show 0 ≤ clampI 1 9 tr; omega, a2.2, by show (1 : Int) ≤ 1; omega, by show (1 : Int) ≤ 99; omega, by show (0 : Int) ≤ 0; omega, by show (0 : Int) ≤ 0; omega⟩⟩
end Go.Proofs.YtiapjjgmmiifmaaGreatDoor.Ab

namespace Go.Proofs
open Go.Shelf
def Tryz.lays162_ren : Go.Shelf.Ren := ⟨fun | 162 => 85 | 232 => 96 | 227 => 97 | 234 => 98 | 236 => 99 | 228 => 112 | 271 => 113 | 151 => 114 | 120 => 124 | 197 => 103 | 152 => 125 | 260 => 116 | 137 => 129 | 119 => 130 | 224 => 119 | 225 => 118 | 217 => 117 | 266 => 126 | n => n, fun | 9 => 9 | 4 => 4 | 3 => 3 | 5 => 5 | 117 => 157 | 116 => 156 | 0 => 0 | 124 => 160 | 21 => 21 | 105 => 165 | 46 => 100 | 119 => 181 | 139 => 184 | 138 => 183 | n => n, fun | 3 => 6 | 4 => 7 | n => n⟩
theorem Tryz.lays162 : Go.Proofs.Lays.n162 Tryz.prog Tryz.lays162_ren := {
  mixed := by kernel_rfl
  f119 := Tryz.func130.trans (congrArg some (by kernel_rfl))
  f120 := Tryz.func124.trans (congrArg some (by kernel_rfl))
  f137 := Tryz.func129.trans (congrArg some (by kernel_rfl))
  f151 := Tryz.func114.trans (congrArg some (by kernel_rfl))
  f152 := Tryz.func125.trans (congrArg some (by kernel_rfl))
  f162 := Tryz.func85.trans (congrArg some (by kernel_rfl))
  f197 := Tryz.func103.trans (congrArg some (by kernel_rfl))
  f217 := Tryz.func117.trans (congrArg some (by kernel_rfl))
  f224 := Tryz.func119.trans (congrArg some (by kernel_rfl))
  f225 := Tryz.func118.trans (congrArg some (by kernel_rfl))
  f227 := Tryz.func97.trans (congrArg some (by kernel_rfl))
  f228 := Tryz.func112.trans (congrArg some (by kernel_rfl))
  f232 := Tryz.func96.trans (congrArg some (by kernel_rfl))
  f234 := Tryz.func98.trans (congrArg some (by kernel_rfl))
  f236 := Tryz.func99.trans (congrArg some (by kernel_rfl))
  f260 := Tryz.func116.trans (congrArg some (by kernel_rfl))
  f266 := Tryz.func126.trans (congrArg some (by kernel_rfl))
  f271 := Tryz.func113.trans (congrArg some (by kernel_rfl))
  t0 := Tryz.underlying0
  a0 := Tryz.isAgg0
  z0 := Tryz.sizeOf0
  v0 := Tryz.zeroValue0
  t3 := Tryz.underlying3
  a3 := Tryz.isAgg3
  z3 := Tryz.sizeOf3
  v3 := Tryz.zeroValue3
  t4 := Tryz.underlying4
  a4 := Tryz.isAgg4
  z4 := Tryz.sizeOf4
  v4 := Tryz.zeroValue4
  t5 := Tryz.underlying5
  a5 := Tryz.isAgg5
  z5 := Tryz.sizeOf5
  v5 := Tryz.zeroValue5
  t9 := Tryz.underlying9
  a9 := Tryz.isAgg9
  z9 := Tryz.sizeOf9
  v9 := Tryz.zeroValue9
  t21 := Tryz.underlying21
  a21 := Tryz.isAgg21
  z21 := Tryz.sizeOf21
  v21 := Tryz.zeroValue21
  t46 := Tryz.underlying100
  a46 := Tryz.isAgg100
  z46 := Tryz.sizeOf100
  v46 := Tryz.zeroValue100
  t105 := Tryz.underlying165
  a105 := Tryz.isAgg165
  z105 := Tryz.sizeOf165
  v105 := Tryz.zeroValue165
  t116 := Tryz.underlying156
  a116 := Tryz.isAgg156
  z116 := Tryz.sizeOf156
  t117 := Tryz.underlying157
  a117 := Tryz.isAgg157
  z117 := Tryz.sizeOf157
  v117 := Tryz.zeroValue157
  t119 := Tryz.underlying181
  a119 := Tryz.isAgg181
  z119 := Tryz.sizeOf181
  t124 := Tryz.underlying160
  a124 := Tryz.isAgg160
  z124 := Tryz.sizeOf160
  v124 := Tryz.zeroValue160
  t138 := Tryz.underlying183
  a138 := Tryz.isAgg183
  z138 := Tryz.sizeOf183
  v138 := Tryz.zeroValue183
  t139 := Tryz.underlying184
  a139 := Tryz.isAgg184
  z139 := Tryz.sizeOf184
  v139 := Tryz.zeroValue184
  g3 := by kernel_rfl
  g4 := by kernel_rfl }
open Go.RowKit in
/-- strings.TrimRight: "TrimRight returns a slice of the string s, with all trailing Unicode code points contained in cutset removed.": AT A cutset OF ONE ASCII BYTE. The world is as it was. (LAID: no walk: one application.) -/
theorem Tryz.strings_TrimRight_one (s : ByteArray) (c : UInt8) (hc : c.toNat < 128) (w : World) (hs : s.size ≤ 9223372036854775807) :
    Calls Tryz.prog 85 #[.string s, .string ⟨#[c]⟩] w fun e w' => e = .returned (.string ⟨(Lib.trimRightB s.data.toList c).toArray⟩) ∧ w' = w := Any.strings_TrimRight_one Tryz.lays162 s c hc w hs
def Tryz.lays283_ren : Go.Shelf.Ren := ⟨fun | 283 => 66 | n => n, fun | 3 => 3 | 9 => 9 | 4 => 4 | n => n, fun | n => n⟩
theorem Tryz.lays283 : Go.Proofs.Lays.n283 Tryz.prog Tryz.lays283_ren := {
  mixed := by kernel_rfl
  f283 := Tryz.func66.trans (congrArg some (by kernel_rfl))
  t3 := Tryz.underlying3
  a3 := Tryz.isAgg3
  z3 := Tryz.sizeOf3
  v3 := Tryz.zeroValue3
  t4 := Tryz.underlying4
  a4 := Tryz.isAgg4
  z4 := Tryz.sizeOf4
  v4 := Tryz.zeroValue4
  t9 := Tryz.underlying9
  a9 := Tryz.isAgg9
  z9 := Tryz.sizeOf9
  v9 := Tryz.zeroValue9 }
open Go.Lib in
/-- internal/strconv.small: "small returns the string for an i with 0 <= i < nSmalls.": i's decimal numeral. The world is as it was. (LAID: no walk: one application.) -/
theorem Tryz.internal_strconv_small (i : Nat) (h : i < 100) (w : World) :
    Calls Tryz.prog 66 #[.int .i64 i] w fun e w' => e = .returned (.string ⟨(Lib.decDigits i).toArray⟩) ∧ w' = w := Any.internal_strconv_small Tryz.lays283 i h w
def Tryz.laysM284_ren : Go.Shelf.Ren := ⟨fun | 284 => 67 | 129 => 79 | 317 => 78 | 318 => 80 | n => n, fun | 53 => 85 | 3 => 3 | 212 => 140 | 0 => 0 | 4 => 4 | 46 => 100 | 5 => 5 | 9 => 9 | n => n, fun | 17 => 0 | n => n⟩
theorem Tryz.laysM284 : Go.Proofs.LaysM.n284 Tryz.prog Tryz.laysM284_ren := {
  mixed := by kernel_rfl
  f129 := Tryz.func79.trans (congrArg some (by kernel_rfl))
  f284 := Tryz.func67.trans (congrArg some (by kernel_rfl))
  f317 := Tryz.func78.trans (congrArg some (by kernel_rfl))
  f318 := Tryz.func80.trans (congrArg some (by kernel_rfl))
  t0 := Tryz.underlying0
  a0 := Tryz.isAgg0
  z0 := Tryz.sizeOf0
  v0 := Tryz.zeroValue0
  t3 := Tryz.underlying3
  a3 := Tryz.isAgg3
  z3 := Tryz.sizeOf3
  v3 := Tryz.zeroValue3
  t4 := Tryz.underlying4
  a4 := Tryz.isAgg4
  z4 := Tryz.sizeOf4
  v4 := Tryz.zeroValue4
  t5 := Tryz.underlying5
  a5 := Tryz.isAgg5
  z5 := Tryz.sizeOf5
  v5 := Tryz.zeroValue5
  t9 := Tryz.underlying9
  a9 := Tryz.isAgg9
  z9 := Tryz.sizeOf9
  v9 := Tryz.zeroValue9
  t46 := Tryz.underlying100
  a46 := Tryz.isAgg100
  z46 := Tryz.sizeOf100
  v46 := Tryz.zeroValue100
  t53 := Tryz.underlying85
  a53 := Tryz.isAgg85
  z53 := Tryz.sizeOf85
  v53 := Tryz.zeroValue85
  t212 := Tryz.underlying140
  a212 := Tryz.isAgg140
  z212 := Tryz.sizeOf140
  v212 := Tryz.zeroValue140
  g17 := by kernel_rfl
  i0 := by kernel_rfl
  i3 := by kernel_rfl
  i4 := by kernel_rfl
  i5 := by kernel_rfl
  i9 := by kernel_rfl
  i46 := by kernel_rfl
  i53 := by kernel_rfl
  i212 := by kernel_rfl
  m17 := by kernel_rfl }
open Go.Lib in
/-- internal/strconv.numDigits, at a d that is not 0: THE NUMBER OF d's DECIMAL DIGITS. The world is as it was. (LAID: no walk: one application.) -/
theorem Tryz.internal_strconv_numDigits (u : Nat) (h1 : 1 ≤ u) (h2 : u < 18446744073709551616) (w : World) (htab : Lib.TabIs Tryz.prog w "internal/strconv.uint64pow10" .u64 Lib.pow10Tab) :
    Calls Tryz.prog 67 #[.int .u64 u] w fun e w' => e = .returned (.int .i64 (Lib.nDigits u)) ∧ w' = w := Any.internal_strconv_numDigits Tryz.laysM284 u h1 h2 w htab
def Tryz.lays285_ren : Go.Shelf.Ren := ⟨fun | 285 => 68 | n => n, fun | 37 => 23 | 53 => 85 | 3 => 3 | 4 => 4 | 51 => 41 | 9 => 9 | 5 => 5 | 0 => 0 | n => n, fun | n => n⟩
theorem Tryz.lays285 : Go.Proofs.Lays.n285 Tryz.prog Tryz.lays285_ren := {
  mixed := by kernel_rfl
  f285 := Tryz.func68.trans (congrArg some (by kernel_rfl))
  t0 := Tryz.underlying0
  a0 := Tryz.isAgg0
  z0 := Tryz.sizeOf0
  v0 := Tryz.zeroValue0
  t3 := Tryz.underlying3
  a3 := Tryz.isAgg3
  z3 := Tryz.sizeOf3
  v3 := Tryz.zeroValue3
  t4 := Tryz.underlying4
  a4 := Tryz.isAgg4
  z4 := Tryz.sizeOf4
  v4 := Tryz.zeroValue4
  t5 := Tryz.underlying5
  a5 := Tryz.isAgg5
  z5 := Tryz.sizeOf5
  v5 := Tryz.zeroValue5
  t9 := Tryz.underlying9
  a9 := Tryz.isAgg9
  z9 := Tryz.sizeOf9
  v9 := Tryz.zeroValue9
  t37 := Tryz.underlying23
  a37 := Tryz.isAgg23
  z37 := Tryz.sizeOf23
  v37 := Tryz.zeroValue23
  t51 := Tryz.underlying41
  a51 := Tryz.isAgg41
  z51 := Tryz.sizeOf41
  v51 := Tryz.zeroValue41
  t53 := Tryz.underlying85
  a53 := Tryz.isAgg85
  z53 := Tryz.sizeOf85
  v53 := Tryz.zeroValue85 }
open Go.RowKit Go.Sort Go.Lib in
/-- internal/strconv.formatBase10: "formatBase10 formats the decimal representation of u into a. The caller is responsible for ensuring that a is big enough to hold u. If a is too big, leading zeros will be filled in as needed.": THE ROW HOLDS u's DIGITS ('FmtInv .. 0 ..': every place t holds 'dg u (len - 1 - t)'); all else is as it was but for the count of draws. (LAID: no walk: one application.) -/
theorem Tryz.internal_strconv_formatBase10 (blk off cap : Nat) (u : Nat) (d : Array UInt8) (w : World) (hH : Holds (fun (b : UInt8) => Value.int .u8 (b.toNat : Int)) w blk off d) (hu : u < 10 ^ d.size) (hu64 : u < 18446744073709551616) (hsz : d.size < 4611686018427387904) :
    Calls Tryz.prog 68 #[.slice (some ⟨blk, off, none⟩) d.size cap, .int .u64 u] w fun e w' =>
      e = .returned (.tuple #[]) ∧ ∃ (n v' : Nat) (dk : Array UInt8), w' = (putRow (fun (b : UInt8) => Value.int .u8 (b.toNat : Int)) w blk off dk).drewN n ∧ FmtInv d.size u 0 v' dk := Any.internal_strconv_formatBase10 Tryz.lays285 blk off cap u d w hH hu hu64 hsz
def Tryz.laysM246_ren : Go.Shelf.Ren := ⟨fun | 246 => 46 | 283 => 66 | 284 => 67 | 285 => 68 | 286 => 69 | 129 => 79 | 317 => 78 | 318 => 80 | 319 => 81 | 320 => 82 | 337 => 93 | 338 => 94 | n => n, fun | 2 => 2 | 3 => 3 | 9 => 9 | 4 => 4 | 171 => 123 | 0 => 0 | 53 => 85 | 37 => 23 | 5 => 5 | 173 => 126 | 212 => 140 | 51 => 41 | 20 => 20 | 213 => 141 | 46 => 100 | 232 => 173 | 233 => 174 | n => n, fun | 17 => 0 | 18 => 1 | 19 => 2 | n => n⟩
theorem Tryz.laysM246 : Go.Proofs.LaysM.n246 Tryz.prog Tryz.laysM246_ren := {
  mixed := by kernel_rfl
  f129 := Tryz.func79.trans (congrArg some (by kernel_rfl))
  f246 := Tryz.func46.trans (congrArg some (by kernel_rfl))
  f283 := Tryz.func66.trans (congrArg some (by kernel_rfl))
  f284 := Tryz.func67.trans (congrArg some (by kernel_rfl))
  f285 := Tryz.func68.trans (congrArg some (by kernel_rfl))
  f286 := Tryz.func69.trans (congrArg some (by kernel_rfl))
  f317 := Tryz.func78.trans (congrArg some (by kernel_rfl))
  f318 := Tryz.func80.trans (congrArg some (by kernel_rfl))
  f319 := Tryz.func81.trans (congrArg some (by kernel_rfl))
  f320 := Tryz.func82.trans (congrArg some (by kernel_rfl))
  f337 := Tryz.func93.trans (congrArg some (by kernel_rfl))
  f338 := Tryz.func94.trans (congrArg some (by kernel_rfl))
  t0 := Tryz.underlying0
  a0 := Tryz.isAgg0
  z0 := Tryz.sizeOf0
  v0 := Tryz.zeroValue0
  t2 := Tryz.underlying2
  a2 := Tryz.isAgg2
  z2 := Tryz.sizeOf2
  v2 := Tryz.zeroValue2
  t3 := Tryz.underlying3
  a3 := Tryz.isAgg3
  z3 := Tryz.sizeOf3
  v3 := Tryz.zeroValue3
  t4 := Tryz.underlying4
  a4 := Tryz.isAgg4
  z4 := Tryz.sizeOf4
  v4 := Tryz.zeroValue4
  t5 := Tryz.underlying5
  a5 := Tryz.isAgg5
  z5 := Tryz.sizeOf5
  v5 := Tryz.zeroValue5
  t9 := Tryz.underlying9
  a9 := Tryz.isAgg9
  z9 := Tryz.sizeOf9
  v9 := Tryz.zeroValue9
  t20 := Tryz.underlying20
  a20 := Tryz.isAgg20
  z20 := Tryz.sizeOf20
  v20 := Tryz.zeroValue20
  t37 := Tryz.underlying23
  a37 := Tryz.isAgg23
  z37 := Tryz.sizeOf23
  v37 := Tryz.zeroValue23
  t46 := Tryz.underlying100
  a46 := Tryz.isAgg100
  z46 := Tryz.sizeOf100
  v46 := Tryz.zeroValue100
  t51 := Tryz.underlying41
  a51 := Tryz.isAgg41
  z51 := Tryz.sizeOf41
  v51 := Tryz.zeroValue41
  t53 := Tryz.underlying85
  a53 := Tryz.isAgg85
  z53 := Tryz.sizeOf85
  v53 := Tryz.zeroValue85
  t171 := Tryz.underlying123
  a171 := Tryz.isAgg123
  z171 := Tryz.sizeOf123
  v171 := Tryz.zeroValue123
  t173 := Tryz.underlying126
  a173 := Tryz.isAgg126
  z173 := Tryz.sizeOf126
  v173 := Tryz.zeroValue126
  t212 := Tryz.underlying140
  a212 := Tryz.isAgg140
  z212 := Tryz.sizeOf140
  v212 := Tryz.zeroValue140
  t213 := Tryz.underlying141
  a213 := Tryz.isAgg141
  z213 := Tryz.sizeOf141
  t232 := Tryz.underlying173
  a232 := Tryz.isAgg173
  z232 := Tryz.sizeOf173
  v232 := Tryz.zeroValue173
  t233 := Tryz.underlying174
  a233 := Tryz.isAgg174
  z233 := Tryz.sizeOf174
  v233 := Tryz.zeroValue174
  g17 := by kernel_rfl
  g18 := by kernel_rfl
  g19 := by kernel_rfl
  i0 := by kernel_rfl
  i2 := by kernel_rfl
  i3 := by kernel_rfl
  i4 := by kernel_rfl
  i5 := by kernel_rfl
  i9 := by kernel_rfl
  i20 := by kernel_rfl
  i37 := by kernel_rfl
  i46 := by kernel_rfl
  i51 := by kernel_rfl
  i53 := by kernel_rfl
  i171 := by kernel_rfl
  i173 := by kernel_rfl
  i212 := by kernel_rfl
  i232 := by kernel_rfl
  i233 := by kernel_rfl
  m17 := by kernel_rfl
  m18 := by kernel_rfl
  m19 := by kernel_rfl }
open Go.RowKit Go.Sort Go.Lib in
/-- internal/strconv.FormatInt: "FormatInt returns the string representation of i in the given base": AT BASE 10: i's decimal numeral, for every int64. The world behind the call: the world before it, new blocks behind the heap, draws. (LAID: no walk: one application.) -/
theorem Tryz.internal_strconv_FormatInt_10 (n : Int) (h0 : -9223372036854775808 ≤ n) (h1 : n ≤ 9223372036854775807) (w : World) (htab : Lib.TabIs Tryz.prog w "internal/strconv.uint64pow10" .u64 Lib.pow10Tab) :
    Calls Tryz.prog 46 #[.int .i64 n, .int .i64 10] w fun e w' => e = .returned (.string ⟨(Lib.itoa n).toArray⟩) ∧ ∃ k os, w' = grow (w.drewN k) os := Any.internal_strconv_FormatInt_10 Tryz.laysM246 n h0 h1 w htab
def Tryz.laysC245_ren : Go.Shelf.Ren := ⟨fun | 245 => 92 | 279 => 108 | 280 => 109 | 281 => 110 | 282 => 111 | 316 => 121 | 171 => 123 | 205 => 122 | 243 => 128 | 246 => 46 | 283 => 66 | 284 => 67 | 285 => 68 | 286 => 69 | 129 => 79 | 317 => 78 | 318 => 80 | 319 => 81 | 320 => 82 | 337 => 93 | 338 => 94 | n => n, fun | 9 => 9 | 3 => 3 | 75 => 97 | 167 => 168 | 4 => 4 | 168 => 170 | 210 => 178 | 37 => 23 | 0 => 0 | 127 => 187 | 145 => 190 | 143 => 188 | 2 => 2 | 171 => 123 | 53 => 85 | 5 => 5 | 173 => 126 | 212 => 140 | 51 => 41 | 20 => 20 | 213 => 141 | 46 => 100 | 232 => 173 | 233 => 174 | 80 => 70 | n => n, fun | 15 => 4 | 16 => 5 | 17 => 0 | 18 => 1 | 19 => 2 | n => n⟩
theorem Tryz.laysC245 : Go.Proofs.LaysC.n245 Tryz.prog Tryz.laysC245_ren := {
  mixed := by kernel_rfl
  f129 := Tryz.func79.trans (congrArg some (by kernel_rfl))
  f171 := Tryz.func123.trans (congrArg some (by kernel_rfl))
  f205 := Tryz.func122.trans (congrArg some (by kernel_rfl))
  f243 := Tryz.func128.trans (congrArg some (by kernel_rfl))
  f245 := Tryz.func92.trans (congrArg some (by kernel_rfl))
  f246 := Tryz.func46.trans (congrArg some (by kernel_rfl))
  f279 := Tryz.func108.trans (congrArg some (by kernel_rfl))
  f280 := Tryz.func109.trans (congrArg some (by kernel_rfl))
  f281 := Tryz.func110.trans (congrArg some (by kernel_rfl))
  f282 := Tryz.func111.trans (congrArg some (by kernel_rfl))
  f283 := Tryz.func66.trans (congrArg some (by kernel_rfl))
  f284 := Tryz.func67.trans (congrArg some (by kernel_rfl))
  f285 := Tryz.func68.trans (congrArg some (by kernel_rfl))
  f286 := Tryz.func69.trans (congrArg some (by kernel_rfl))
  f316 := Tryz.func121.trans (congrArg some (by kernel_rfl))
  f317 := Tryz.func78.trans (congrArg some (by kernel_rfl))
  f318 := Tryz.func80.trans (congrArg some (by kernel_rfl))
  f319 := Tryz.func81.trans (congrArg some (by kernel_rfl))
  f320 := Tryz.func82.trans (congrArg some (by kernel_rfl))
  f337 := Tryz.func93.trans (congrArg some (by kernel_rfl))
  f338 := Tryz.func94.trans (congrArg some (by kernel_rfl))
  t0 := Tryz.underlying0
  a0 := Tryz.isAgg0
  z0 := Tryz.sizeOf0
  v0 := Tryz.zeroValue0
  t2 := Tryz.underlying2
  a2 := Tryz.isAgg2
  z2 := Tryz.sizeOf2
  v2 := Tryz.zeroValue2
  t3 := Tryz.underlying3
  a3 := Tryz.isAgg3
  z3 := Tryz.sizeOf3
  v3 := Tryz.zeroValue3
  t4 := Tryz.underlying4
  a4 := Tryz.isAgg4
  z4 := Tryz.sizeOf4
  v4 := Tryz.zeroValue4
  t5 := Tryz.underlying5
  a5 := Tryz.isAgg5
  z5 := Tryz.sizeOf5
  v5 := Tryz.zeroValue5
  t9 := Tryz.underlying9
  a9 := Tryz.isAgg9
  z9 := Tryz.sizeOf9
  v9 := Tryz.zeroValue9
  t20 := Tryz.underlying20
  a20 := Tryz.isAgg20
  z20 := Tryz.sizeOf20
  v20 := Tryz.zeroValue20
  t37 := Tryz.underlying23
  a37 := Tryz.isAgg23
  z37 := Tryz.sizeOf23
  v37 := Tryz.zeroValue23
  t46 := Tryz.underlying100
  a46 := Tryz.isAgg100
  z46 := Tryz.sizeOf100
  v46 := Tryz.zeroValue100
  t51 := Tryz.underlying41
  a51 := Tryz.isAgg41
  z51 := Tryz.sizeOf41
  v51 := Tryz.zeroValue41
  t53 := Tryz.underlying85
  a53 := Tryz.isAgg85
  z53 := Tryz.sizeOf85
  v53 := Tryz.zeroValue85
  t75 := Tryz.underlying97
  a75 := Tryz.isAgg97
  z75 := Tryz.sizeOf97
  v75 := Tryz.zeroValue97
  t127 := Tryz.underlying187
  a127 := Tryz.isAgg187
  z127 := Tryz.sizeOf187
  v127 := Tryz.zeroValue187
  t143 := Tryz.underlying188
  a143 := Tryz.isAgg188
  z143 := Tryz.sizeOf188
  v143 := Tryz.zeroValue188
  t145 := Tryz.underlying190
  a145 := Tryz.isAgg190
  z145 := Tryz.sizeOf190
  v145 := Tryz.zeroValue190
  t167 := Tryz.underlying168
  a167 := Tryz.isAgg168
  z167 := Tryz.sizeOf168
  v167 := Tryz.zeroValue168
  t168 := Tryz.underlying170
  a168 := Tryz.isAgg170
  z168 := Tryz.sizeOf170
  v168 := Tryz.zeroValue170
  t171 := Tryz.underlying123
  a171 := Tryz.isAgg123
  z171 := Tryz.sizeOf123
  v171 := Tryz.zeroValue123
  t173 := Tryz.underlying126
  a173 := Tryz.isAgg126
  z173 := Tryz.sizeOf126
  v173 := Tryz.zeroValue126
  t210 := Tryz.underlying178
  a210 := Tryz.isAgg178
  z210 := Tryz.sizeOf178
  v210 := Tryz.zeroValue178
  t212 := Tryz.underlying140
  a212 := Tryz.isAgg140
  z212 := Tryz.sizeOf140
  v212 := Tryz.zeroValue140
  t213 := Tryz.underlying141
  a213 := Tryz.isAgg141
  z213 := Tryz.sizeOf141
  t232 := Tryz.underlying173
  a232 := Tryz.isAgg173
  z232 := Tryz.sizeOf173
  v232 := Tryz.zeroValue173
  t233 := Tryz.underlying174
  a233 := Tryz.isAgg174
  z233 := Tryz.sizeOf174
  v233 := Tryz.zeroValue174
  g15 := by kernel_rfl
  g16 := by kernel_rfl
  g17 := by kernel_rfl
  g18 := by kernel_rfl
  g19 := by kernel_rfl
  t80 := Tryz.underlying70
  a80 := Tryz.isAgg70
  z80 := Tryz.sizeOf70
  v80 := Tryz.zeroValue70
  i0 := by kernel_rfl
  i2 := by kernel_rfl
  i3 := by kernel_rfl
  i4 := by kernel_rfl
  i5 := by kernel_rfl
  i9 := by kernel_rfl
  i20 := by kernel_rfl
  i37 := by kernel_rfl
  i46 := by kernel_rfl
  i51 := by kernel_rfl
  i53 := by kernel_rfl
  i75 := by kernel_rfl
  i80 := by kernel_rfl
  i127 := by kernel_rfl
  i143 := by kernel_rfl
  i145 := by kernel_rfl
  i167 := by kernel_rfl
  i168 := by kernel_rfl
  i171 := by kernel_rfl
  i173 := by kernel_rfl
  i210 := by kernel_rfl
  i212 := by kernel_rfl
  i232 := by kernel_rfl
  i233 := by kernel_rfl
  m15 := by kernel_rfl
  m16 := by kernel_rfl
  m17 := by kernel_rfl
  m18 := by kernel_rfl
  m19 := by kernel_rfl
  c0 := by kernel_rfl
  c2 := by kernel_rfl
  c3 := by kernel_rfl
  c4 := by kernel_rfl
  c5 := by kernel_rfl
  c9 := by kernel_rfl
  c20 := by kernel_rfl
  c37 := by kernel_rfl
  c46 := by kernel_rfl
  c51 := by kernel_rfl
  c53 := by kernel_rfl
  c75 := by kernel_rfl
  c80 := by kernel_rfl
  c127 := by kernel_rfl
  c143 := by kernel_rfl
  c145 := by kernel_rfl
  c167 := by kernel_rfl
  c168 := by kernel_rfl
  c171 := by kernel_rfl
  c173 := by kernel_rfl
  c210 := by kernel_rfl
  c212 := by kernel_rfl
  c213 := by kernel_rfl
  c232 := by kernel_rfl
  c233 := by kernel_rfl }
open Go.RowKit in
/-- strconv.toError, at the inner package's ErrSyntax: 'syntaxError(fn, s)' as an error: A *NumError IN A NEW BLOCK. (LAID: no walk: one application.) -/
theorem Tryz.strconv_toError_syntax (fn s : ByteArray) (base bits : Int) (ev : Value) (w : World) (hlim : s.size ≤ 281474976710656) (hv : w.cell? ⟨4, 0, none⟩ = some ev) (hev : ev = .nilIface ∨ ∃ te pe, ev = .iface te pe) :
    Calls Tryz.prog 92 #[.string fn, .string s, .int .i64 base, .int .i64 bits, .iface 168 (.int .i64 2)] w fun e w' => ∃ N, e = .returned (.iface 170 (.pointer (some ⟨N, 0, none⟩))) ∧ w.heap.size ≤ N ∧ w'.heap[N]? = some (.cells #[.string fn, .string s, ev] 178 (0, 0)) ∧ Below w.heap.size w w' := Any.strconv_toError_syntax Tryz.laysC245 fn s base bits ev w hlim hv hev
open Go.RowKit in
/-- strconv.toError, at the inner package's ErrRange: 'rangeError(fn, s)' as an error: A *NumError IN A NEW BLOCK. (LAID: no walk: one application.) -/
theorem Tryz.strconv_toError_range (fn s : ByteArray) (base bits : Int) (ev : Value) (w : World) (hlim : s.size ≤ 281474976710656) (hv : w.cell? ⟨5, 0, none⟩ = some ev) (hev : ev = .nilIface ∨ ∃ te pe, ev = .iface te pe) :
    Calls Tryz.prog 92 #[.string fn, .string s, .int .i64 base, .int .i64 bits, .iface 168 (.int .i64 1)] w fun e w' => ∃ N, e = .returned (.iface 170 (.pointer (some ⟨N, 0, none⟩))) ∧ w.heap.size ≤ N ∧ w'.heap[N]? = some (.cells #[.string fn, .string s, ev] 178 (0, 0)) ∧ Below w.heap.size w w' := Any.strconv_toError_range Tryz.laysC245 fn s base bits ev w hlim hv hev
def Tryz.lays219_ren : Go.Shelf.Ren := ⟨fun | 219 => 105 | 217 => 117 | 225 => 118 | 224 => 119 | 267 => 120 | 266 => 126 | 314 => 127 | n => n, fun | 9 => 9 | 3 => 3 | 4 => 4 | 5 => 5 | 46 => 100 | 146 => 185 | 51 => 41 | n => n, fun | 1 => 3 | n => n⟩
theorem Tryz.lays219 : Go.Proofs.Lays.n219 Tryz.prog Tryz.lays219_ren := {
  mixed := by kernel_rfl
  f217 := Tryz.func117.trans (congrArg some (by kernel_rfl))
  f219 := Tryz.func105.trans (congrArg some (by kernel_rfl))
  f224 := Tryz.func119.trans (congrArg some (by kernel_rfl))
  f225 := Tryz.func118.trans (congrArg some (by kernel_rfl))
  f266 := Tryz.func126.trans (congrArg some (by kernel_rfl))
  f267 := Tryz.func120.trans (congrArg some (by kernel_rfl))
  f314 := Tryz.func127.trans (congrArg some (by kernel_rfl))
  t3 := Tryz.underlying3
  a3 := Tryz.isAgg3
  z3 := Tryz.sizeOf3
  v3 := Tryz.zeroValue3
  t4 := Tryz.underlying4
  a4 := Tryz.isAgg4
  z4 := Tryz.sizeOf4
  v4 := Tryz.zeroValue4
  t5 := Tryz.underlying5
  a5 := Tryz.isAgg5
  z5 := Tryz.sizeOf5
  v5 := Tryz.zeroValue5
  t9 := Tryz.underlying9
  a9 := Tryz.isAgg9
  z9 := Tryz.sizeOf9
  v9 := Tryz.zeroValue9
  t46 := Tryz.underlying100
  a46 := Tryz.isAgg100
  z46 := Tryz.sizeOf100
  v46 := Tryz.zeroValue100
  t51 := Tryz.underlying41
  a51 := Tryz.isAgg41
  z51 := Tryz.sizeOf41
  v51 := Tryz.zeroValue41
  t146 := Tryz.underlying185
  a146 := Tryz.isAgg185
  z146 := Tryz.sizeOf185
  v146 := Tryz.zeroValue185
  g1 := by kernel_rfl }
open Go.RowKit Go.Lib in
/-- internal/stringslite.Index (what strings.Index calls) AT A substr OF ONE BYTE c: IT RETURNS 'Lib.indexByte s c'; the world is as it was. (LAID: no walk: one application.) -/
theorem Tryz.stringslite_Index_one (s : ByteArray) (c : UInt8) (w : World) :
    Calls Tryz.prog 105 #[.string s, .string ⟨#[c]⟩] w fun e w' => e = .returned (.int .i64 (Lib.indexByte s.data.toList c)) ∧ w' = w := Any.stringslite_Index_one Tryz.lays219 s c w
def Tryz.lays143_ren : Go.Shelf.Ren := ⟨fun | 143 => 90 | 219 => 105 | 217 => 117 | 225 => 118 | 224 => 119 | 267 => 120 | 266 => 126 | 314 => 127 | n => n, fun | 9 => 9 | 3 => 3 | 4 => 4 | 5 => 5 | 46 => 100 | 146 => 185 | 51 => 41 | n => n, fun | 1 => 3 | n => n⟩
theorem Tryz.lays143 : Go.Proofs.Lays.n143 Tryz.prog Tryz.lays143_ren := {
  mixed := by kernel_rfl
  f143 := Tryz.func90.trans (congrArg some (by kernel_rfl))
  f217 := Tryz.func117.trans (congrArg some (by kernel_rfl))
  f219 := Tryz.func105.trans (congrArg some (by kernel_rfl))
  f224 := Tryz.func119.trans (congrArg some (by kernel_rfl))
  f225 := Tryz.func118.trans (congrArg some (by kernel_rfl))
  f266 := Tryz.func126.trans (congrArg some (by kernel_rfl))
  f267 := Tryz.func120.trans (congrArg some (by kernel_rfl))
  f314 := Tryz.func127.trans (congrArg some (by kernel_rfl))
  t3 := Tryz.underlying3
  a3 := Tryz.isAgg3
  z3 := Tryz.sizeOf3
  v3 := Tryz.zeroValue3
  t4 := Tryz.underlying4
  a4 := Tryz.isAgg4
  z4 := Tryz.sizeOf4
  v4 := Tryz.zeroValue4
  t5 := Tryz.underlying5
  a5 := Tryz.isAgg5
  z5 := Tryz.sizeOf5
  v5 := Tryz.zeroValue5
  t9 := Tryz.underlying9
  a9 := Tryz.isAgg9
  z9 := Tryz.sizeOf9
  v9 := Tryz.zeroValue9
  t46 := Tryz.underlying100
  a46 := Tryz.isAgg100
  z46 := Tryz.sizeOf100
  v46 := Tryz.zeroValue100
  t51 := Tryz.underlying41
  a51 := Tryz.isAgg41
  z51 := Tryz.sizeOf41
  v51 := Tryz.zeroValue41
  t146 := Tryz.underlying185
  a146 := Tryz.isAgg185
  z146 := Tryz.sizeOf185
  v146 := Tryz.zeroValue185
  g1 := by kernel_rfl }
open Go.RowKit Go.Lib in
/-- strings.Index: "Index returns the index of the first instance of substr in s, or -1 if substr is not present in s.": AT A substr OF ONE BYTE c: IT RETURNS 'Lib.indexByte s c'; the world is as it was. (LAID: no walk: one application.) -/
theorem Tryz.strings_Index_one (s : ByteArray) (c : UInt8) (w : World) :
    Calls Tryz.prog 90 #[.string s, .string ⟨#[c]⟩] w fun e w' => e = .returned (.int .i64 (Lib.indexByte s.data.toList c)) ∧ w' = w := Any.strings_Index_one Tryz.lays143 s c w
def Tryz.lays138_ren : Go.Shelf.Ren := ⟨fun | 138 => 89 | 195 => 102 | 218 => 104 | 143 => 90 | 219 => 105 | 217 => 117 | 225 => 118 | 224 => 119 | 267 => 120 | 266 => 126 | 314 => 127 | n => n, fun | 9 => 9 | 3 => 3 | 4 => 4 | 5 => 5 | 0 => 0 | 46 => 100 | 146 => 185 | 51 => 41 | n => n, fun | 1 => 3 | n => n⟩
theorem Tryz.lays138 : Go.Proofs.Lays.n138 Tryz.prog Tryz.lays138_ren := {
  mixed := by kernel_rfl
  f138 := Tryz.func89.trans (congrArg some (by kernel_rfl))
  f143 := Tryz.func90.trans (congrArg some (by kernel_rfl))
  f195 := Tryz.func102.trans (congrArg some (by kernel_rfl))
  f217 := Tryz.func117.trans (congrArg some (by kernel_rfl))
  f218 := Tryz.func104.trans (congrArg some (by kernel_rfl))
  f219 := Tryz.func105.trans (congrArg some (by kernel_rfl))
  f224 := Tryz.func119.trans (congrArg some (by kernel_rfl))
  f225 := Tryz.func118.trans (congrArg some (by kernel_rfl))
  f266 := Tryz.func126.trans (congrArg some (by kernel_rfl))
  f267 := Tryz.func120.trans (congrArg some (by kernel_rfl))
  f314 := Tryz.func127.trans (congrArg some (by kernel_rfl))
  t0 := Tryz.underlying0
  a0 := Tryz.isAgg0
  z0 := Tryz.sizeOf0
  v0 := Tryz.zeroValue0
  t3 := Tryz.underlying3
  a3 := Tryz.isAgg3
  z3 := Tryz.sizeOf3
  v3 := Tryz.zeroValue3
  t4 := Tryz.underlying4
  a4 := Tryz.isAgg4
  z4 := Tryz.sizeOf4
  v4 := Tryz.zeroValue4
  t5 := Tryz.underlying5
  a5 := Tryz.isAgg5
  z5 := Tryz.sizeOf5
  v5 := Tryz.zeroValue5
  t9 := Tryz.underlying9
  a9 := Tryz.isAgg9
  z9 := Tryz.sizeOf9
  v9 := Tryz.zeroValue9
  t46 := Tryz.underlying100
  a46 := Tryz.isAgg100
  z46 := Tryz.sizeOf100
  v46 := Tryz.zeroValue100
  t51 := Tryz.underlying41
  a51 := Tryz.isAgg41
  z51 := Tryz.sizeOf41
  v51 := Tryz.zeroValue41
  t146 := Tryz.underlying185
  a146 := Tryz.isAgg185
  z146 := Tryz.sizeOf185
  v146 := Tryz.zeroValue185
  g1 := by kernel_rfl }
open Go.RowKit Go.Lib in
/-- strings.Count AT A substr OF ONE BYTE ('hp'): "Count counts the number of non-overlapping instances of substr in s.": IT RETURNS 'Lib.countByte s (that byte)'; the world is as it was. ✋ NO CONTRACT HERE YET at an empty substr (utf8.RuneCountInString) or at a longer one (a loop over strings.Index). (LAID: no walk: one application.) -/
theorem Tryz.strings_Count_one (s : ByteArray) (c : UInt8) (w : World) :
    Calls Tryz.prog 89 #[.string s, .string ⟨#[c]⟩] w fun e w' => e = .returned (.int .i64 (Lib.countByte s.data.toList c)) ∧ w' = w := Any.strings_Count_one Tryz.lays138 s c w
def Tryz.lays221_ren : Go.Shelf.Ren := ⟨fun | 221 => 76 | 268 => 88 | 138 => 89 | 143 => 90 | 195 => 102 | 197 => 103 | 218 => 104 | 219 => 105 | 260 => 116 | 217 => 117 | 225 => 118 | 224 => 119 | 267 => 120 | 266 => 126 | 314 => 127 | n => n, fun | 9 => 9 | 3 => 3 | 31 => 57 | 4 => 4 | 0 => 0 | 105 => 165 | 21 => 21 | 5 => 5 | 46 => 100 | 119 => 181 | 139 => 184 | 138 => 183 | 146 => 185 | 51 => 41 | n => n, fun | 1 => 3 | 3 => 6 | 4 => 7 | n => n⟩
theorem Tryz.lays221 : Go.Proofs.Lays.n221 Tryz.prog Tryz.lays221_ren := {
  mixed := by kernel_rfl
  f138 := Tryz.func89.trans (congrArg some (by kernel_rfl))
  f143 := Tryz.func90.trans (congrArg some (by kernel_rfl))
  f195 := Tryz.func102.trans (congrArg some (by kernel_rfl))
  f197 := Tryz.func103.trans (congrArg some (by kernel_rfl))
  f217 := Tryz.func117.trans (congrArg some (by kernel_rfl))
  f218 := Tryz.func104.trans (congrArg some (by kernel_rfl))
  f219 := Tryz.func105.trans (congrArg some (by kernel_rfl))
  f221 := Tryz.func76.trans (congrArg some (by kernel_rfl))
  f224 := Tryz.func119.trans (congrArg some (by kernel_rfl))
  f225 := Tryz.func118.trans (congrArg some (by kernel_rfl))
  f260 := Tryz.func116.trans (congrArg some (by kernel_rfl))
  f266 := Tryz.func126.trans (congrArg some (by kernel_rfl))
  f267 := Tryz.func120.trans (congrArg some (by kernel_rfl))
  f268 := Tryz.func88.trans (congrArg some (by kernel_rfl))
  f314 := Tryz.func127.trans (congrArg some (by kernel_rfl))
  t0 := Tryz.underlying0
  a0 := Tryz.isAgg0
  z0 := Tryz.sizeOf0
  v0 := Tryz.zeroValue0
  t3 := Tryz.underlying3
  a3 := Tryz.isAgg3
  z3 := Tryz.sizeOf3
  v3 := Tryz.zeroValue3
  t4 := Tryz.underlying4
  a4 := Tryz.isAgg4
  z4 := Tryz.sizeOf4
  v4 := Tryz.zeroValue4
  t5 := Tryz.underlying5
  a5 := Tryz.isAgg5
  z5 := Tryz.sizeOf5
  v5 := Tryz.zeroValue5
  t9 := Tryz.underlying9
  a9 := Tryz.isAgg9
  z9 := Tryz.sizeOf9
  v9 := Tryz.zeroValue9
  t21 := Tryz.underlying21
  a21 := Tryz.isAgg21
  z21 := Tryz.sizeOf21
  v21 := Tryz.zeroValue21
  t31 := Tryz.underlying57
  a31 := Tryz.isAgg57
  z31 := Tryz.sizeOf57
  v31 := Tryz.zeroValue57
  t46 := Tryz.underlying100
  a46 := Tryz.isAgg100
  z46 := Tryz.sizeOf100
  v46 := Tryz.zeroValue100
  t51 := Tryz.underlying41
  a51 := Tryz.isAgg41
  z51 := Tryz.sizeOf41
  v51 := Tryz.zeroValue41
  t105 := Tryz.underlying165
  a105 := Tryz.isAgg165
  z105 := Tryz.sizeOf165
  v105 := Tryz.zeroValue165
  t119 := Tryz.underlying181
  a119 := Tryz.isAgg181
  z119 := Tryz.sizeOf181
  t138 := Tryz.underlying183
  a138 := Tryz.isAgg183
  z138 := Tryz.sizeOf183
  v138 := Tryz.zeroValue183
  t139 := Tryz.underlying184
  a139 := Tryz.isAgg184
  z139 := Tryz.sizeOf184
  v139 := Tryz.zeroValue184
  t146 := Tryz.underlying185
  a146 := Tryz.isAgg185
  z146 := Tryz.sizeOf185
  v146 := Tryz.zeroValue185
  g1 := by kernel_rfl
  g3 := by kernel_rfl
  g4 := by kernel_rfl }
end Go.Proofs

set_option linter.unusedVariables false
set_option linter.unusedSimpArgs false
namespace Go.Proofs.YtiapjjgmmiifmaaGreatDoor.Ab
open Go Go.RowKit
set_option maxHeartbeats 4000000
set_option maxRecDepth 100000
/-- The table of powers of ten lies in the world. -/
abbrev Ten (w : World) : Prop := Lib.TabIs Tryz.prog w "internal/strconv.uint64pow10" .u64 Lib.pow10Tab
theorem tab_at {P : Program} {w0 w : World} {G : Loc} {m : Mem} {name : String} {k : IntKind} {zs : List Int} (h : Lib.TabIs P w0 name k zs) (hs : St P w0 G m w) : Lib.TabIs P w name k zs := by
  unfold Lib.TabIs World.var? at h ⊢
  cases hg : P.globalNamed name with
  | none => rw [hg] at h; simp at h
  | some g =>
    rw [hg] at h
    simp only [Option.bind_some] at h ⊢
    have hlt : g < w0.heap.size := by
      rcases Nat.lt_or_ge g w0.heap.size with h' | h'
      · exact h'
      · rw [Array.getElem?_eq_none h'] at h; cases h
    rw [hs.below.block g hlt]; exact h
theorem tab_mem {P : Program} {W : World} {l : List (String × DataW Unit)} {name : String} {k : IntKind} {zs : List Int} {g : Nat} {t e : TypeId} {n : Nat} (h : laidMet P l W) (hm : (name, Lib.tabData k zs) ∈ l)
    (hg : P.globalNamed name = some g) (hty : (P.globals[g]?).map (·.type) = some t) (ht : P.underlying t = some (.array n e)) (he : P.underlying e = some (.int k)) (hce : P.cellsOf e = 1) (hct : P.cellsOf t = n) : Lib.TabIs P W name k zs := by
  obtain ⟨ps, hv, _⟩ := h
  obtain ⟨g', t', cs, fuel, p, h1, h2, h3, h4⟩ := laid_mem hv hm
  obtain rfl := Option.some.inj (hg.symm.trans h1)
  obtain rfl := Option.some.inj (hty.symm.trans h2)
  have hcs := Lib.cells_of_tab ht he hce hct h4
  unfold Lib.TabIs
  rw [h3]
  congr 1
  exact Array.ext' (by simpa using hcs)
theorem ten_of {W : World} {l : List (String × DataW Unit)} (h : laidMet Tryz.prog l W) (hm : ("internal/strconv.uint64pow10", Lib.tabData .u64 z10) ∈ l) : Ten W := by
  have e : Lib.pow10Tab = z10 := by kernel_rfl
  unfold Ten
  rw [e]
  exact tab_mem (g := 0) h hm (by kernel_rfl) (by kernel_rfl) Tryz.underlying140 Tryz.underlying85 (by kernel_rfl) (by kernel_rfl)
/-- A contract of plain values that only grows the world. -/
theorem c_calls {P : Program} {w0 : World} {m : Mem} {f : FuncId} {args : List Value} {v : Value} {Q : Value → Mem → Prop} (hcall : callOk P f = true) (ha : args.all (plainV 6) = true) (hv : plainV 6 v = true)
    (h : ∀ (G : Loc) (w : World), St P w0 G m w → Calls P f args.toArray w fun e w' => e = .returned v ∧ Below w.heap.size w w') (hq : Q v m) : AbC P w0 f args m Q := by
  intro G w args' hs hargs
  have ha' : ∀ u ∈ args, plainV 6 u = true := by simpa [List.all_eq_true] using ha
  have he : args' = args := VRs.plain_eq hargs fun u hu u' hr => VR.plain_eq 6 u u' (ha' u hu) hr
  subst he
  rw [run_callFunc_enter hcall]
  show Calls _ _ _ _ _
  refine (h G w hs).mono ?_
  rintro e w' ⟨rfl, hb⟩
  exact ⟨v, rfl, G, v, m, Loc.le_refl G, VR.plain 6 v hv, hs.grown hb, hq⟩
/-- A number as a text. -/
def numS (B : Nat) (i : Int) : List UInt8 := sgn (decide (i < 0)) ++ digs B i.natAbs
theorem dec_digs : ∀ u, Lib.decDigits u = digs 10 u := by
  intro u
  induction u using Nat.strongRecOn with
  | _ u ih =>
    rw [Lib.decDigits]
    split
    · rename_i h
      rw [digs_lt h]; simp [digC, h]
    · rename_i h
      rw [digs_ge (by omega) (by omega), ih (u / 10) (by omega)]
      simp [digC, Nat.mod_lt]
theorem itoa_numS (n : Int) : Lib.itoa n = numS 10 n := by
  unfold Lib.itoa numS sgn
  by_cases h : n < 0
  · simp [h, dec_digs]
  · have : n.toNat = n.natAbs := by omega
    simp [h, dec_digs, this]
theorem c_fmt10 {w0 : World} {m : Mem} {n : Int} {Q : Value → Mem → Prop} (ht : Ten w0) (hn : -9223372036854775808 ≤ n ∧ n ≤ 9223372036854775807) (hq : Q (.string ⟨⟨numS 10 n⟩⟩) m) :
    AbC Tryz.prog w0 46 [.int .i64 n, .int .i64 10] m Q := by
  refine c_calls (v := .string ⟨⟨numS 10 n⟩⟩) (by kernel_rfl) rfl rfl (fun G w hs => ?_) hq
  refine (Tryz.internal_strconv_FormatInt_10 n hn.1 hn.2 w (tab_at ht hs)).mono ?_
  rintro e w' ⟨rfl, k, os, rfl⟩
  exact ⟨by rw [itoa_numS], Lib.below_grow _ w (Nat.le_refl _) k os⟩
theorem c_fmtP {w0 : World} {m : Mem} {B k : Nat} {i : Int} {Q : Value → Mem → Prop} (hp : Part L0 m) (hB : B = 2 ^ k) (hk : 3 ≤ k ∧ k ≤ 5) (h10 : B ≠ 10) (hi : -9223372036854775808 ≤ i ∧ i ≤ 9223372036854775807)
    (h1 : outIs (.bool true) (callE tab (xCall xs) Tryz.prog 50 81 [.int .i64 (B : Int)] L0) = true)
    (h2 : outIs (.int .i64 (k : Int)) (callE tab (xCall xs) Tryz.prog 50 82 [.int .u64 (B : Int)] L0) = true)
    (hq : ∀ m', Old m m' → Q (.string ⟨⟨numS B i⟩⟩) m') : AbC Tryz.prog w0 46 [.int .i64 i, .int .i64 (B : Int)] m Q := by
  refine AbC_fn ok46 (by simp) ?_
  have f2 : (B : Int) ≠ 10 := by omega
  simp -implicitDefEqProofs (disch := first | assumption | (simp only [wnA]; done) | (simp only [wnA]; omega) | omega | fail) [rc46, ro46, wkA, retV, stabOk, dC, ev, fillD, pickCells, putAt, bnd, slD, List.getElem?_cons_zero, List.getElem?_cons_succ, dR.eq_20, Mem.cell, Mem.row, wmA, beqF f2, rc46_3]
  refine c_fmtBits (k := k) (a := i.natAbs) hp hB hk h10 (by omega) ?_ h1 h2 fun m' ho => ?_
  · by_cases hn : i < 0
    · simp only [hn, decide_true, if_true]
      congr 1; omega
    · simp only [hn, decide_false, Bool.false_eq_true, if_false]
      rw [IntWalk.u64_in _ (by omega)]; omega
  · simp -implicitDefEqProofs (disch := first | assumption | (simp only [wnA]; done) | (simp only [wnA]; omega) | omega | fail) [wkA, retV, stabOk, dC, ev, fillD, pickCells, putAt, bnd, slD, List.getElem?_cons_zero, List.getElem?_cons_succ, dR.eq_20, Mem.cell, Mem.row, wmA]
    exact hq m' ho
theorem pow8 : outIs (.bool true) (callE tab (xCall xs) Tryz.prog 50 81 [.int .i64 ((8 : Nat) : Int)] L0) = true := by kernel_rfl
theorem tz8 : outIs (.int .i64 ((3 : Nat) : Int)) (callE tab (xCall xs) Tryz.prog 50 82 [.int .u64 ((8 : Nat) : Int)] L0) = true := by kernel_rfl
theorem pow16 : outIs (.bool true) (callE tab (xCall xs) Tryz.prog 50 81 [.int .i64 ((16 : Nat) : Int)] L0) = true := by kernel_rfl
theorem tz16 : outIs (.int .i64 ((4 : Nat) : Int)) (callE tab (xCall xs) Tryz.prog 50 82 [.int .u64 ((16 : Nat) : Int)] L0) = true := by kernel_rfl
/-- strconv.FormatInt at 8, 10, 16. -/
theorem c_FormatInt {w0 : World} {m : Mem} {B : Nat} {i : Int} {Q : Value → Mem → Prop} (hp : Part L0 m) (ht : Ten w0) (hB : B = 8 ∨ B = 10 ∨ B = 16) (hi : -9223372036854775808 ≤ i ∧ i ≤ 9223372036854775807)
    (hq : ∀ m', Old m m' → Q (.string ⟨⟨numS B i⟩⟩) m') : AbC Tryz.prog w0 31 [.int .i64 i, .int .i64 (B : Int)] m Q := by
  refine AbC_fn ok31 (by simp) ?_
  simp -implicitDefEqProofs (disch := first | assumption | (simp only [wnA]; done) | (simp only [wnA]; omega) | omega | fail) [rc31, ro31, wkA, retV, stabOk, dC, ev, fillD, pickCells, putAt, bnd, slD, List.getElem?_cons_zero, List.getElem?_cons_succ, dR.eq_20, Mem.cell, Mem.row, wmA]
  have key : AbC Tryz.prog w0 46 [.int .i64 i, .int .i64 (B : Int)] m fun v m' => v = .string ⟨⟨numS B i⟩⟩ ∧ Old m m' := by
    rcases hB with rfl | rfl | rfl
    · exact c_fmtP hp (k := 3) rfl (by omega) (by omega) hi pow8 tz8 fun m' ho => ⟨rfl, ho⟩
    · exact c_fmt10 ht hi ⟨rfl, Old.refl m⟩
    · exact c_fmtP hp (k := 4) rfl (by omega) (by omega) hi pow16 tz16 fun m' ho => ⟨rfl, ho⟩
  refine key.mono ?_
  rintro v m' ⟨rfl, ho⟩
  simp -implicitDefEqProofs (disch := first | assumption | (simp only [wnA]; done) | (simp only [wnA]; omega) | omega | fail) [wkA, retV, stabOk, dC, ev, fillD, pickCells, putAt, bnd, slD, List.getElem?_cons_zero, List.getElem?_cons_succ, dR.eq_20, Mem.cell, Mem.row, wmA]
  exact hq m' ho
/-- How long a number's text is. -/
theorem numS_len {B : Nat} (hB : 2 ≤ B) {i : Int} {L : Nat} (hi : i.natAbs < B ^ L) (hL : 1 ≤ L) : (numS B i).length ≤ L + 1 := by
  have := digs_len hB L _ hi
  unfold numS sgn
  split <;> simp <;> omega
theorem numS_pos {B : Nat} {i : Int} : 1 ≤ (numS B i).length := by
  have := digs_pos B i.natAbs
  unfold numS
  simp; omega
end Go.Proofs.YtiapjjgmmiifmaaGreatDoor.Ab

set_option linter.unusedVariables false
set_option linter.unusedSimpArgs false
namespace Go.Proofs.YtiapjjgmmiifmaaGreatDoor.Ab
open Go Go.RowKit
set_option maxHeartbeats 4000000
set_option maxRecDepth 100000
def letterB (c : Int) : Bool := (decide (97 ≤ c) && decide (c ≤ 122)) || (decide (65 ≤ c) && decide (c ≤ 90))
def okc (k : Nat) (c : Int) : Bool := letterB c || (k != 0 && (c == 46 || c == 45 || c == 95 || (decide (48 ≤ c) && decide (c ≤ 57))))
def nameB (s : ByteArray) : Bool := ((List.range s.size).all fun k => okc k (byteAt s k)) && (decide (0 < s.size) && decide (s.size ≤ 32))
theorem c_Name {w0 : World} {m : Mem} {s : ByteArray} {Q : Value → Mem → Prop} (hl : s.size ≤ 9223372036854775807) (hq : Q (.bool (nameB s)) m) : AbC Tryz.prog w0 101 [.string s] m Q := by
  refine AbC_fn ok101 (by simp) ?_
  simp -implicitDefEqProofs (disch := first | assumption | (simp only [wnA]; done) | (simp only [wnA]; omega) | omega | fail) [rc101, ro101, wkA, retV, stabOk, dC, ev, fillD, pickCells, putAt, bnd, slD, List.getElem?_cons_zero, List.getElem?_cons_succ, dR_sl, Mem.cell, Mem.row, wmA]
  refine LoopW_of (fun k ts m' => ∃ j, j + k = s.size ∧ m' = m ∧ ts 0 = .string s ∧ ts 7 = .int .i64 (s.size : Nat) ∧ ts 8 = .int .i64 (j : Nat) ∧ (∀ i, i < j → okc i (byteAt s i) = true)) s.size ?_ ?_
  · exact ⟨0, by omega, rfl, by simp [frA_at], by simp, by simp, fun i hi => by omega⟩
  · rintro k ts m1 K ⟨j, hj, rfl, t0, t7, t8, hall⟩ hK
    simp -implicitDefEqProofs (disch := first | assumption | (simp only [wnA]; done) | (simp only [wnA]; omega) | omega | fail) [rc101_1, wkA, retV, stabOk, dC, ev, fillD, pickCells, putAt, bnd, slD, List.getElem?_cons_zero, List.getElem?_cons_succ, dR_sl, Mem.cell, Mem.row, wmA, t7, t8]
    by_cases hjl : j < s.size
    · obtain ⟨g1, g2⟩ := byteAt_get hjl
      have fin : okc j (byteAt s j) = true → ∀ ts' : Fr, ts' 0 = ts 0 → ts' 7 = ts 7 → ts' 8 = .int .i64 ((j + 1 : Nat) : Int) → K ts' m1 := fun ho ts' r0 r7 r8 =>
        hK (k - 1) ts' m1 (by omega) ⟨j + 1, by omega, rfl, by rw [r0, t0], by rw [r7, t7], r8, fun i hi => by
          by_cases hij : i = j
          · subst hij; exact ho
          · exact hall i (by omega)⟩
      have bad : okc j (byteAt s j) = false → Q (.bool false) m1 := fun ho => by
        have : nameB s = false := by
          simp only [nameB, Bool.and_eq_false_iff]
          left
          rw [List.all_eq_false]
          exact ⟨j, by simpa using hjl, by rw [ho]; decide⟩
        rw [← this]; exact hq
      simp -implicitDefEqProofs (disch := first | assumption | (simp only [wnA]; done) | (simp only [wnA]; omega) | omega | fail) [hjl, rc101_0, wkA, retV, stabOk, dC, ev, fillD, pickCells, putAt, bnd, slD, List.getElem?_cons_zero, List.getElem?_cons_succ, dR_sl, Mem.cell, Mem.row, wmA, t0, t8, g1]
      rw [g2] at fin bad
      generalize ((s[j]).toNat : Int) = c at *
      by_cases hj0 : j = 0
      · subst hj0
        have cls : (97 ≤ c ∧ c ≤ 122) ∨ (65 ≤ c ∧ c ≤ 90) ∨ (c < 65) ∨ (90 < c ∧ c < 97) ∨ 122 < c := by omega
        rcases cls with h | h | h | h | h
        all_goals simp -implicitDefEqProofs (disch := first | assumption | (simp only [wnA]; done) | (simp only [wnA]; omega) | omega | fail) [leT, leF, ltT, ltF, beqT, beqF, bneT, bneF, wkA, retV, stabOk, dC, ev, fillD, pickCells, putAt, bnd, slD, List.getElem?_cons_zero, List.getElem?_cons_succ, dR_sl, Mem.cell, Mem.row, wmA, t8, w64]
        all_goals first
          | exact fin (by simp -implicitDefEqProofs (disch := first | assumption | (simp only [wnA]; done) | (simp only [wnA]; omega) | omega | fail) [okc, letterB, leT, leF, ltT, ltF, beqT, beqF]) _ (by simp) (by simp) (by simp)
          | exact bad (by simp -implicitDefEqProofs (disch := first | assumption | (simp only [wnA]; done) | (simp only [wnA]; omega) | omega | fail) [okc, letterB, leT, leF, ltT, ltF, beqT, beqF])
      · have hj1 : ((j : Int) == 0) = false := by simpa using hj0
        have hj2 : (j != 0) = true := by simpa using hj0
        have cls : (97 ≤ c ∧ c ≤ 122) ∨ (65 ≤ c ∧ c ≤ 90) ∨ c < 45 ∨ c = 45 ∨ c = 46 ∨ c = 47 ∨ (48 ≤ c ∧ c ≤ 57) ∨ (57 < c ∧ c < 65) ∨ (90 < c ∧ c < 95) ∨ c = 95 ∨ c = 96 ∨ 122 < c := by omega
        rcases cls with h | h | h | h | h | h | h | h | h | h | h | h
        all_goals simp -implicitDefEqProofs (disch := first | assumption | (simp only [wnA]; done) | (simp only [wnA]; omega) | omega | fail) [leT, leF, ltT, ltF, beqT, beqF, bneT, bneF, wkA, retV, stabOk, dC, ev, fillD, pickCells, putAt, bnd, slD, List.getElem?_cons_zero, List.getElem?_cons_succ, dR_sl, Mem.cell, Mem.row, wmA, t8, hj1, w64]
        all_goals first
          | exact fin (by simp -implicitDefEqProofs (disch := first | assumption | (simp only [wnA]; done) | (simp only [wnA]; omega) | omega | fail) [okc, letterB, leT, leF, ltT, ltF, beqT, beqF, hj2]) _ (by simp) (by simp) (by simp)
          | exact bad (by simp -implicitDefEqProofs (disch := first | assumption | (simp only [wnA]; done) | (simp only [wnA]; omega) | omega | fail) [okc, letterB, leT, leF, ltT, ltF, beqT, beqF, hj2])
    · have hjj : j = s.size := by omega
      subst hjj
      have hn : nameB s = (decide (0 < s.size) && decide (s.size ≤ 32)) := by
        have : (List.range s.size).all (fun k => okc k (byteAt s k)) = true := by
          rw [List.all_eq_true]
          intro i hi
          exact hall i (by simpa using hi)
        simp only [nameB, this, Bool.true_and]
      rw [hn] at hq
      simp -implicitDefEqProofs (disch := first | assumption | (simp only [wnA]; done) | (simp only [wnA]; omega) | omega | fail) [hjl, rc101_2, wkA, retV, stabOk, dC, ev, fillD, pickCells, putAt, bnd, slD, List.getElem?_cons_zero, List.getElem?_cons_succ, dR_sl, Mem.cell, Mem.row, wmA, t0]
      by_cases h0 : 0 < s.size
      · simp only [h0, decide_true, Bool.true_and] at hq
        by_cases h32 : s.size ≤ 32
        · simp only [h32, decide_true] at hq
          have h33 : (s.size : Int) ≤ 32 := by omega
          simp -implicitDefEqProofs (disch := first | assumption | (simp only [wnA]; done) | (simp only [wnA]; omega) | omega | fail) [h0, leT, wkA, retV, stabOk, dC, ev, fillD, pickCells, putAt, bnd, slD, List.getElem?_cons_zero, List.getElem?_cons_succ, dR_sl, Mem.cell, Mem.row, wmA, t0, h32]
          exact hq
        · simp only [h32, decide_false] at hq
          simp -implicitDefEqProofs (disch := first | assumption | (simp only [wnA]; done) | (simp only [wnA]; omega) | omega | fail) [h0, leF, wkA, retV, stabOk, dC, ev, fillD, pickCells, putAt, bnd, slD, List.getElem?_cons_zero, List.getElem?_cons_succ, dR_sl, Mem.cell, Mem.row, wmA, t0, h32]
          exact hq
      · simp only [h0, decide_false, Bool.false_and] at hq
        simp -implicitDefEqProofs (disch := first | assumption | (simp only [wnA]; done) | (simp only [wnA]; omega) | omega | fail) [h0, wkA, retV, stabOk, dC, ev, fillD, pickCells, putAt, bnd, slD, List.getElem?_cons_zero, List.getElem?_cons_succ, dR_sl, Mem.cell, Mem.row, wmA, t0]
        exact hq
end Go.Proofs.YtiapjjgmmiifmaaGreatDoor.Ab

set_option linter.unusedVariables false
set_option linter.unusedSimpArgs false
namespace Go.Proofs.YtiapjjgmmiifmaaGreatDoor.Ab
open Go Go.RowKit
set_option maxHeartbeats 4000000
set_option maxRecDepth 100000
section
variable {P : Program} {w0 : World} {ts : Fr} {m : Mem} {R : Value → Mem → Prop}
end
structure Fl where
  nm : ByteArray
  size : Int
  time : Int
  mode : Int
def Fl.v (f : Fl) : Value := .agg ⟨[.string f.nm, .int .i64 f.size, .int .i64 f.time, .int .i64 f.mode]⟩
def Fl.ok (f : Fl) : Prop := f.nm.size ≤ 9223372036854775807
def mayB (f : Fl) : Bool := nameB f.nm && (decide (0 ≤ f.size) && (decide (f.size ≤ 8192) && (decide (0 ≤ f.time) && (decide (f.time < 4294967296) && (decide (0 ≤ f.mode) && decide (f.mode < 65536))))))
theorem c_May {w0 : World} {m : Mem} {f : Fl} {Q : Value → Mem → Prop} (hf : f.ok) (hq : ∀ m', Old m m' → Q (.bool (mayB f)) m') : AbC Tryz.prog w0 87 [f.v] m Q := by
  refine AbC_fn ok87 (by simp) ?_
  obtain ⟨nm, sz, ti, mo⟩ := f
  simp only [Fl.v, Fl.ok] at *
  simp -implicitDefEqProofs (disch := first | assumption | (simp only [wnA]; done) | (simp only [wnA]; omega) | omega | fail) [rc87, ro87, wkA, retV, stabOk, dC, ev, fillD, pickCells, putAt, bnd, slD, List.getElem?_cons_zero, List.getElem?_cons_succ, dR.eq_20, Mem.cell, Mem.row, wmA]
  refine c_Name hf ?_
  have hq' := fun b (h : mayB ⟨nm, sz, ti, mo⟩ = b) => h ▸ hq (m.push (.own [.string nm, .int .i64 sz, .int .i64 ti, .int .i64 mo] 102)) ((Old.refl m).push _)
  simp only [mayB] at hq'
  cases hn : nameB nm with
  | false =>
    simp -implicitDefEqProofs (disch := first | assumption | (simp only [wnA]; done) | (simp only [wnA]; omega) | omega | fail) [wkA, retV, stabOk, dC, ev, fillD, pickCells, putAt, bnd, slD, List.getElem?_cons_zero, List.getElem?_cons_succ, dR.eq_20, Mem.cell, Mem.row, wmA]
    exact hq' _ (by simp [hn])
  | true =>
    by_cases h1 : 0 ≤ sz
    · by_cases h2 : sz ≤ 8192
      · by_cases h3 : 0 ≤ ti
        · by_cases h4 : ti < 4294967296
          · by_cases h5 : 0 ≤ mo
            · simp -implicitDefEqProofs (disch := first | assumption | (simp only [wnA]; done) | (simp only [wnA]; omega) | omega | fail) [wkA, retV, stabOk, dC, ev, fillD, pickCells, putAt, bnd, slD, List.getElem?_cons_zero, List.getElem?_cons_succ, dR.eq_20, Mem.cell, Mem.row, wmA, h1, h2, h3, h4, h5]
              exact hq' _ (by simp [hn, h1, h2, h3, h4, h5])
            · simp -implicitDefEqProofs (disch := first | assumption | (simp only [wnA]; done) | (simp only [wnA]; omega) | omega | fail) [wkA, retV, stabOk, dC, ev, fillD, pickCells, putAt, bnd, slD, List.getElem?_cons_zero, List.getElem?_cons_succ, dR.eq_20, Mem.cell, Mem.row, wmA, h1, h2, h3, h4, h5]
              exact hq' _ (by simp [hn, h1, h2, h3, h4, h5])
          · simp -implicitDefEqProofs (disch := first | assumption | (simp only [wnA]; done) | (simp only [wnA]; omega) | omega | fail) [wkA, retV, stabOk, dC, ev, fillD, pickCells, putAt, bnd, slD, List.getElem?_cons_zero, List.getElem?_cons_succ, dR.eq_20, Mem.cell, Mem.row, wmA, h1, h2, h3, h4]
            exact hq' _ (by simp [hn, h1, h2, h3, h4])
        · simp -implicitDefEqProofs (disch := first | assumption | (simp only [wnA]; done) | (simp only [wnA]; omega) | omega | fail) [wkA, retV, stabOk, dC, ev, fillD, pickCells, putAt, bnd, slD, List.getElem?_cons_zero, List.getElem?_cons_succ, dR.eq_20, Mem.cell, Mem.row, wmA, h1, h2, h3]
          exact hq' _ (by simp [hn, h1, h2, h3])
      · simp -implicitDefEqProofs (disch := first | assumption | (simp only [wnA]; done) | (simp only [wnA]; omega) | omega | fail) [wkA, retV, stabOk, dC, ev, fillD, pickCells, putAt, bnd, slD, List.getElem?_cons_zero, List.getElem?_cons_succ, dR.eq_20, Mem.cell, Mem.row, wmA, h1, h2]
        exact hq' _ (by simp [hn, h1, h2])
    · simp -implicitDefEqProofs (disch := first | assumption | (simp only [wnA]; done) | (simp only [wnA]; omega) | omega | fail) [wkA, retV, stabOk, dC, ev, fillD, pickCells, putAt, bnd, slD, List.getElem?_cons_zero, List.getElem?_cons_succ, dR.eq_20, Mem.cell, Mem.row, wmA, h1]
      exact hq' _ (by simp [hn, h1])
/-- The bytes that tell a file. -/
def tellL (f : Fl) : List UInt8 := f.nm.data.toList ++ 0 :: (numS 10 f.size ++ 32 :: (numS 8 f.time ++ 32 :: numS 8 f.mode))
def padL (l : List UInt8) : List UInt8 := l ++ List.replicate (128 - l.length) 0
theorem tell_len {f : Fl} (h : mayB f = true) : (tellL f).length ≤ 90 := by
  unfold mayB at h
  simp only [Bool.and_eq_true, decide_eq_true_eq, nameB] at h
  obtain ⟨⟨-, -, h1⟩, h2, h3, h4, h5, h6, h7⟩ := h
  have n1 : (numS 10 f.size).length ≤ 5 := numS_len (L := 4) (by omega) (by omega) (by omega)
  have n2 : (numS 8 f.time).length ≤ 12 := numS_len (L := 11) (by omega) (by omega) (by omega)
  have n3 : (numS 8 f.mode).length ≤ 7 := numS_len (L := 6) (by omega) (by omega) (by omega)
  have n4 : f.nm.data.toList.length = f.nm.size := by simp
  unfold tellL
  simp only [List.length_append, List.length_cons]
  omega
end Go.Proofs.YtiapjjgmmiifmaaGreatDoor.Ab

set_option linter.unusedVariables false
set_option linter.unusedSimpArgs false
namespace Go.Proofs.YtiapjjgmmiifmaaGreatDoor.Ab
open Go Go.RowKit
section
variable {m : Mem}
theorem arg_u8 (d : TD) (c : List Value) (hf : Fits (.int .u8) d) (h : AbsT m d c) : ∃ a : UInt8, c = [byteV a] ∧ True := by
  obtain ⟨n, rfl, rfl, hw⟩ := absT_int h hf
  have hw' : 0 ≤ n ∧ n ≤ 255 := by simpa [Lit.wf, IntKind.min, IntKind.max, IntKind.signed, IntKind.bits] using hw
  refine ⟨UInt8.ofNat n.toNat, ?_, trivial⟩
  have : (UInt8.ofNat n.toNat).toNat = n.toNat := by
    rw [UInt8.toNat_ofNat']; omega
  simp only [byteV, this]
  congr 2; omega
theorem flat_one {α : Type} (f : α → Value) : ∀ l : List α, l.flatMap (fun b => [f b]) = l.map f
  | [] => rfl
  | x :: l => by simp [flat_one f l]
theorem absT_bys {td : TD} {v : Value} (h : AbsT m td [v]) (hs : Fits (.sl (.int .u8)) td) :
    ∃ bs : List UInt8, SlR m 1 v (bs.map byteV) bs.length ∧ (∀ b, blk v = some b → b < m.next) ∧ bs.length + 1 ≤ td.bulk := by
  obtain ⟨l, xs, rfl, h1, h2, h3⟩ := absT_slice (f := fun b : UInt8 => [byteV b]) (z := 1) (R := fun _ _ => True) (fun _ => rfl) arg_u8 h hs
  rw [flat_one byteV] at h1
  refine ⟨xs, h1, h3, ?_⟩
  have := TD.bulks_len l
  rw [h2.length]
  simp [TD.bulk]; omega
theorem wf_u16 {n : Int} (h : (Lit.int .u16 n).wf = true) : 0 ≤ n ∧ n ≤ 65535 := by
  have : 0 ≤ n ∧ n ≤ 65535 := by simpa [Lit.wf, IntKind.min, IntKind.max, IntKind.signed, IntKind.bits] using h
  exact this
theorem wf_u8 {n : Int} (h : (Lit.int .u8 n).wf = true) : 0 ≤ n ∧ n ≤ 255 := by
  have : 0 ≤ n ∧ n ≤ 255 := by simpa [Lit.wf, IntKind.min, IntKind.max, IntKind.signed, IntKind.bits] using h
  exact this
end
end Go.Proofs.YtiapjjgmmiifmaaGreatDoor.Ab

set_option linter.unusedVariables false
set_option linter.unusedSimpArgs false
namespace Go.Proofs.YtiapjjgmmiifmaaGreatDoor.Ab
open Go Go.RowKit
set_option maxHeartbeats 4000000
set_option maxRecDepth 100000
theorem split_at {x : UInt8} : ∀ {a b r s : List UInt8}, x ∉ a → x ∉ b → a ++ x :: r = b ++ x :: s → a = b ∧ r = s
  | [], [], r, s, _, _, h => by simpa using h
  | [], c :: b, r, s, _, hb, h => by simp at h; exact (hb (by simp [h.1])).elim
  | c :: a, [], r, s, ha, _, h => by simp at h; exact (ha (by simp [← h.1])).elim
  | c :: a, d :: b, r, s, ha, hb, h => by
    simp only [List.cons_append, List.cons.injEq] at h
    obtain ⟨rfl, h⟩ := h
    obtain ⟨rfl, rfl⟩ := split_at (fun e => ha (by simp [e])) (fun e => hb (by simp [e])) h
    exact ⟨rfl, rfl⟩
theorem take_pad {a : List UInt8} (h : (0 : UInt8) ∉ a) (k : Nat) : (a ++ List.replicate k 0).takeWhile (fun c => c != 0) = a := by
  induction a with
  | nil => cases k <;> simp [List.replicate_succ]
  | cons c a ih =>
    have hc : (c != 0) = true := by simp; exact fun e => h (by simp [e])
    simp only [List.cons_append, List.takeWhile_cons, hc, if_true]
    rw [ih (fun e => h (by simp [e]))]
def decC (c : UInt8) : Nat := if c.toNat < 58 then c.toNat - 48 else c.toNat - 87
theorem decC_at : ∀ d : Fin 36, decC (digC d.val) = d.val ∧ digC d.val ≠ 0 ∧ digC d.val ≠ 32 := by decide +kernel
def valD (b : Nat) (l : List UInt8) : Nat := l.foldl (fun a c => a * b + decC c) 0
theorem valD_digs {b : Nat} (hb : 2 ≤ b) (hb2 : b ≤ 36) : ∀ n, valD b (digs b n) = n := by
  intro n
  induction n using Nat.strongRecOn with
  | _ n ih =>
    by_cases h : n < b
    · rw [digs_lt h]
      simp [valD, (decC_at ⟨n, by omega⟩).1]
    · have h1 : n / b < n := Nat.div_lt_self (by omega) (by omega)
      have h2 : n % b < b := Nat.mod_lt _ (by omega)
      rw [digs_ge hb (by omega)]
      have := ih _ h1
      unfold valD at this ⊢
      rw [List.foldl_append, this]
      simp only [List.foldl_cons, List.foldl_nil]
      rw [(decC_at ⟨n % b, by omega⟩).1]
      have := Nat.div_add_mod n b
      rw [Nat.mul_comm] at this
      exact this
theorem digs_mem {b : Nat} (hb : 2 ≤ b) (hb2 : b ≤ 36) : ∀ n, ∀ c ∈ digs b n, c ≠ 0 ∧ c ≠ 32 := by
  intro n
  induction n using Nat.strongRecOn with
  | _ n ih =>
    intro c hc
    by_cases h : n < b
    · rw [digs_lt h] at hc
      simp at hc; subst hc
      exact (decC_at ⟨n, by omega⟩).2
    · have h1 : n / b < n := Nat.div_lt_self (by omega) (by omega)
      have h2 : n % b < b := Nat.mod_lt _ (by omega)
      rw [digs_ge hb (by omega), List.mem_append] at hc
      rcases hc with hc | hc
      · exact ih _ h1 c hc
      · simp at hc; subst hc
        exact (decC_at ⟨n % b, by omega⟩).2
theorem numS_mem {b : Nat} (hb : 2 ≤ b) (hb2 : b ≤ 36) (i : Int) : ∀ c ∈ numS b i, c ≠ 0 ∧ c ≠ 32 := by
  intro c hc
  unfold numS sgn at hc
  rw [List.mem_append] at hc
  rcases hc with hc | hc
  · split at hc
    · simp at hc; subst hc; decide
    · simp at hc
  · exact digs_mem hb hb2 _ c hc
theorem numS_inj {b : Nat} (hb : 2 ≤ b) (hb2 : b ≤ 36) {i j : Int} (hi : 0 ≤ i) (hj : 0 ≤ j) (h : numS b i = numS b j) : i = j := by
  unfold numS sgn at h
  rw [if_neg (by simpa using hi), if_neg (by simpa using hj)] at h
  simp only [List.nil_append] at h
  have := congrArg (valD b) h
  rw [valD_digs hb hb2, valD_digs hb hb2] at this
  omega
theorem nameB_mem {nm : ByteArray} (h : nameB nm = true) : (0 : UInt8) ∉ nm.data.toList := by
  intro hm
  obtain ⟨k, hk, hc⟩ := List.mem_iff_getElem.1 hm
  unfold nameB at h
  rw [Bool.and_eq_true, List.all_eq_true] at h
  have hk' : k < nm.size := by simpa using hk
  have := h.1 k (by simpa using hk')
  have h0 : byteAt nm k = 0 := by
    rw [(byteAt_get hk').2]
    have : nm[k] = nm.data.toList[k] := by simp; rfl
    rw [this, hc]; rfl
  rw [h0] at this
  simp [okc, letterB] at this
def sameB (f g : Fl) : Bool := (f.nm.data.toList == g.nm.data.toList) && ((f.size == g.size) && ((f.time == g.time) && (f.mode == g.mode)))
theorem tell_inj {f g : Fl} (hf : mayB f = true) (hg : mayB g = true) : (padL (tellL f) == padL (tellL g)) = sameB f g := by
  have lf := tell_len hf
  have lg := tell_len hg
  unfold mayB at hf hg
  simp only [Bool.and_eq_true, decide_eq_true_eq] at hf hg
  obtain ⟨f1, f2, f3, f4, f5, f6, f7⟩ := hf
  obtain ⟨g1, g2, g3, g4, g5, g6, g7⟩ := hg
  rw [Bool.eq_iff_iff]
  simp only [sameB, Bool.and_eq_true, beq_iff_eq]
  constructor
  · intro h
    unfold padL at h
    unfold tellL at h lf lg
    simp only [List.append_assoc, List.cons_append] at h
    obtain ⟨e1, h⟩ := split_at (nameB_mem f1) (nameB_mem g1) h
    have s10 := fun i e => (numS_mem (b := 10) (by omega) (by omega) i 32 e).2 rfl
    have s8 := fun i e => (numS_mem (b := 8) (by omega) (by omega) i 32 e).2 rfl
    have z8 := fun i e => (numS_mem (b := 8) (by omega) (by omega) i 0 e).1 rfl
    obtain ⟨e2, h⟩ := split_at (s10 _) (s10 _) h
    obtain ⟨e3, h⟩ := split_at (s8 _) (s8 _) h
    have e4 := congrArg (List.takeWhile (fun c => c != 0)) h
    rw [take_pad (z8 _), take_pad (z8 _)] at e4
    exact ⟨e1, numS_inj (by omega) (by omega) f2 g2 e2, numS_inj (by omega) (by omega) f4 g4 e3, numS_inj (by omega) (by omega) f6 g6 e4⟩
  · rintro ⟨e1, e2, e3, e4⟩
    unfold padL tellL
    rw [e1, e2, e3, e4]
end Go.Proofs.YtiapjjgmmiifmaaGreatDoor.Ab

set_option linter.unusedVariables false
set_option linter.unusedSimpArgs false
namespace Go.Proofs.YtiapjjgmmiifmaaGreatDoor.Ab
open Go Go.RowKit
set_option maxHeartbeats 4000000
set_option maxRecDepth 100000
theorem pad_len {f : Fl} (h : mayB f = true) : (padL (tellL f)).length = 128 := by
  have := tell_len h
  unfold padL; simp; omega
end Go.Proofs.YtiapjjgmmiifmaaGreatDoor.Ab

set_option linter.unusedVariables false
set_option linter.unusedSimpArgs false
namespace Go.Proofs.YtiapjjgmmiifmaaGreatDoor.Ab
open Go Go.RowKit
set_option maxHeartbeats 4000000
set_option maxRecDepth 100000
def lowN (c : UInt8) : Nat := Nat.lor c.toNat 32
def dgt (c : UInt8) : Option Nat := if 48 ≤ c.toNat ∧ c.toNat ≤ 57 then some (c.toNat - 48) else if 97 ≤ lowN c ∧ lowN c ≤ 122 then some (lowN c - 97 + 10) else none
def puStep (B M n : Nat) (c : UInt8) : Option Nat := match dgt c with
  | some d => if d < B ∧ n * B + d ≤ M then some (n * B + d) else none
  | none => none
/-- What a text's number is, up to M. -/
def puL (B M : Nat) : Nat → List UInt8 → Option Nat
  | n, [] => some n
  | n, c :: l => match puStep B M n c with
    | some n' => puL B M n' l
    | none => none
theorem lowN_lt (c : UInt8) : lowN c < 256 := by
  have h1 : c.toNat < 2 ^ 8 := c.toNat_lt
  have : c.toNat ||| 32 < 2 ^ 8 := Nat.or_lt_two_pow h1 (by omega)
  exact this
theorem dOr32 (c : UInt8) : dBin .or (.int .u8 (c.toNat : Int)) (.int .u8 32) = some (.int .u8 ((lowN c : Nat) : Int)) := by
  have h1 : c.toNat < 256 := c.toNat_lt
  have h2 := binI_eq (op := .or) (k := .u8) (a := Int.ofNat c.toNat) (b := Int.ofNat 32) (v := .int .u8 (IntKind.u8.wrap (Int.ofNat (Nat.lor c.toNat 32)))) (by
    simp only [binI, bitI]
    rw [blt_true.2 (show c.toNat < kTop .u8 by simpa [kTop] using h1), blt_true.2 (show 32 < kTop .u8 by simp [kTop])]
    simp only [wrapF_eq])
  have h3 : IntKind.u8.wrap (Int.ofNat (Nat.lor c.toNat 32)) = ((lowN c : Nat) : Int) := by
    have := lowN_lt c
    rw [IntKind.wrap_u8]
    show ((lowN c : Nat) : Int) % 256 = _
    omega
  rw [h3] at h2
  exact h2
theorem c_lower {w0 : World} {m : Mem} {c : UInt8} {Q : Value → Mem → Prop} (hq : Q (.int .u8 ((lowN c : Nat) : Int)) m) : AbC Tryz.prog w0 106 [.int .u8 (c.toNat : Int)] m Q := by
  refine AbC_fn ok106 (by simp) ?_
  simp -implicitDefEqProofs (disch := first | assumption | (simp only [wnA]; done) | (simp only [wnA]; omega) | omega | fail) [rc106, ro106, wkA, retV, stabOk, dC, ev, fillD, pickCells, putAt, bnd, slD, List.getElem?_cons_zero, List.getElem?_cons_succ, dR_sl, Mem.cell, Mem.row, wmA, dOr32]
  exact hq
theorem w_PUtail {w0 : World} {Q : AQ} {ts : Fr} {m : Mem} {B M n d C : Nat} (hC : 18446744073709551616 ≤ C * B ∧ (C - 1) * B ≤ 18446744073709551615 ∧ 1 ≤ C) (hB : 2 ≤ B ∧ B ≤ 36) (hM : n ≤ M ∧ M ≤ 18446744073709551615) (hd : d < 256)
    (t1 : ts 1 = .int .i64 (B : Int)) (t10 : ts 10 = .int .u64 (C : Int)) (t11 : ts 11 = .int .u64 (M : Int)) (t13 : ts 13 = .int .u64 (n : Int)) (t16 : ts 16 = .int .u8 (d : Int))
    (he : ∀ ts' v c, ts' 6 = .int .u64 v → ts' 7 = .iface 168 (.int .i64 c) → (c = 1 ∨ c = 2) → (c = 1 → v = (M : Int)) → ¬ (d < B ∧ n * B + d ≤ M) → Q .ret ts' m)
    (hq : ∀ ts', ts' 1 = ts 1 → ts' 8 = ts 8 → ts' 10 = ts 10 → ts' 11 = ts 11 → ts' 12 = ts 12 → ts' 99 = ts 99 → ts' 100 = ts 100 → ts' 101 = ts 101 → ts' 13 = .int .u64 ((n * B + d : Nat) : Int) → d < B → n * B + d ≤ M → Q .normal ts' m) :
    AbW Tryz.prog w0 rc91_2 Q ts m := by
  have wB8 : IntKind.u8.wrap (B : Int) = (B : Int) := by rw [IntKind.wrap_u8]; omega
  have wB64 : IntKind.u64.wrap (B : Int) = (B : Int) := IntWalk.u64_in _ (by omega)
  have wd64 : IntKind.u64.wrap (d : Int) = (d : Int) := IntWalk.u64_in _ (by omega)
  simp -implicitDefEqProofs (disch := first | assumption | (simp only [wnA]; done) | (simp only [wnA]; omega) | omega | fail) [rc91_2, wkA, retV, stabOk, dC, ev, fillD, pickCells, putAt, bnd, slD, List.getElem?_cons_zero, List.getElem?_cons_succ, dR_sl, Mem.cell, Mem.row, wmA, t1, t16, wB8]
  by_cases h1 : B ≤ d
  · simp -implicitDefEqProofs (disch := first | assumption | (simp only [wnA]; done) | (simp only [wnA]; omega) | omega | fail) [wkA, retV, stabOk, dC, ev, fillD, pickCells, putAt, bnd, slD, List.getElem?_cons_zero, List.getElem?_cons_succ, dR_sl, Mem.cell, Mem.row, wmA, h1]
    exact he _ 0 2 (by simp) (by simp) (.inr rfl) (fun h => absurd h (by decide)) (by omega)
  · simp -implicitDefEqProofs (disch := first | assumption | (simp only [wnA]; done) | (simp only [wnA]; omega) | omega | fail) [wkA, retV, stabOk, dC, ev, fillD, pickCells, putAt, bnd, slD, List.getElem?_cons_zero, List.getElem?_cons_succ, dR_sl, Mem.cell, Mem.row, wmA, h1, rc91_1, t10, t13]
    by_cases h2 : C ≤ n
    · simp -implicitDefEqProofs (disch := first | assumption | (simp only [wnA]; done) | (simp only [wnA]; omega) | omega | fail) [wkA, retV, stabOk, dC, ev, fillD, pickCells, putAt, bnd, slD, List.getElem?_cons_zero, List.getElem?_cons_succ, dR_sl, Mem.cell, Mem.row, wmA, h2, t11]
      refine he _ (M : Int) 1 (by simp) (by simp) (.inl rfl) (fun _ => rfl) ?_
      intro h3
      have h5 : C * B ≤ n * B := Nat.mul_le_mul_right _ h2
      omega
    · have h4 : n ≤ C - 1 := by omega
      have h5 : n * B ≤ (C - 1) * B := Nat.mul_le_mul_right _ h4
      have h6 := hC.2.1
      have w1 : IntKind.u64.wrap ((n : Int) * (B : Int)) = ((n * B : Nat) : Int) := by
        rw [← Int.natCast_mul]; exact IntWalk.u64_in _ (by omega)
      have w1' : IntKind.u64.wrap ((n * B : Nat) : Int) = ((n * B : Nat) : Int) := IntWalk.u64_in _ (by omega)
      generalize hX : n * B = X at *
      simp -implicitDefEqProofs (disch := first | assumption | (simp only [wnA]; done) | (simp only [wnA]; omega) | omega | fail) [wkA, retV, stabOk, dC, ev, fillD, pickCells, putAt, bnd, slD, List.getElem?_cons_zero, List.getElem?_cons_succ, dR_sl, Mem.cell, Mem.row, wmA, h2, rc91_0, t1, t13, t16, wB64, w1, wd64]
      by_cases h7 : X + d ≤ 18446744073709551615
      · have w2 : IntKind.u64.wrap ((X : Int) + (d : Int)) = ((X + d : Nat) : Int) := by rw [IntWalk.u64_in _ (by omega)]; omega
        have h8 : ¬ X + d < X := by omega
        by_cases h9 : X + d ≤ M
        · have h10 : ¬ M < X + d := by omega
          have h11 : ¬ ((M : Int) < (X : Int) + (d : Int)) := by omega
          have h12 : ¬ ((X : Int) + (d : Int) < (X : Int)) := by omega
          simp -implicitDefEqProofs (disch := first | assumption | (simp only [wnA]; done) | (simp only [wnA]; omega) | omega | fail) [wkA, retV, stabOk, dC, ev, fillD, pickCells, putAt, bnd, slD, List.getElem?_cons_zero, List.getElem?_cons_succ, dR_sl, Mem.cell, Mem.row, wmA, w2, h8, h10, h11, h12, t11]
          exact hq _ (by simp) (by simp) (by simp) (by simp) (by simp) (by simp) (by simp) (by simp) (by simp) (by omega) h9
        · have h10 : M < X + d := by omega
          have h11 : (M : Int) < (X : Int) + (d : Int) := by omega
          have h12 : ¬ ((X : Int) + (d : Int) < (X : Int)) := by omega
          simp -implicitDefEqProofs (disch := first | assumption | (simp only [wnA]; done) | (simp only [wnA]; omega) | omega | fail) [wkA, retV, stabOk, dC, ev, fillD, pickCells, putAt, bnd, slD, List.getElem?_cons_zero, List.getElem?_cons_succ, dR_sl, Mem.cell, Mem.row, wmA, w2, h8, h10, h11, h12, t11]
          exact he _ (M : Int) 1 (by simp) (by simp) (.inl rfl) (fun _ => rfl) (by omega)
      · obtain ⟨Y, hY⟩ := Nat.exists_eq_add_of_le (show 18446744073709551616 ≤ X + d by omega)
        have h12 : (Y : Int) < (X : Int) := by omega
        have h8 : Y < X := by omega
        have w2 : IntKind.u64.wrap ((X : Int) + (d : Int)) = (Y : Int) := by
          have e : (X : Int) + (d : Int) = 18446744073709551616 + (Y : Int) := by omega
          rw [e]
          simp only [IntKind.wrap, IntKind.bits, IntKind.signed]
          simp
          omega
        simp -implicitDefEqProofs (disch := first | assumption | (simp only [wnA]; done) | (simp only [wnA]; omega) | omega | fail) [wkA, retV, stabOk, dC, ev, fillD, pickCells, putAt, bnd, slD, List.getElem?_cons_zero, List.getElem?_cons_succ, dR_sl, Mem.cell, Mem.row, wmA, w2, h8, h12, t11]
        exact he _ (M : Int) 1 (by simp) (by simp) (.inl rfl) (fun _ => rfl) (by omega)
theorem w_PUloop {w0 : World} {Q : AQ} {ts : Fr} {m : Mem} {B M bits C : Nat} {s : ByteArray} (hC : 18446744073709551616 ≤ C * B ∧ (C - 1) * B ≤ 18446744073709551615 ∧ 1 ≤ C) (hB : B = 8 ∨ B = 10 ∨ B = 16) (hM : (bits = 32 ∧ M = 4294967295) ∨ (bits = 64 ∧ M = 18446744073709551615)) (hs : s.size ≤ 140737488355328)
    (t0 : ts 0 = .string s) (t1 : ts 1 = .int .i64 (B : Int)) (t2 : ts 2 = .int .i64 (bits : Int)) (t8 : ts 8 = .bool false) (t10 : ts 10 = .int .u64 (C : Int))
    (he : ∀ ts' m' v c, Old m m' → ts' 6 = .int .u64 v → ts' 7 = .iface 168 (.int .i64 c) → (c = 1 ∨ c = 2) → (c = 1 → v = (M : Int)) → puL B M 0 s.data.toList = none → Q .ret ts' m')
    (hq : ∀ ts' m' v, Old m m' → ts' 6 = .int .u64 ((v : Nat) : Int) → ts' 7 = .nilIface → puL B M 0 s.data.toList = some v → Q .ret ts' m') :
    AbW Tryz.prog w0 rc91_7 Q ts m := by
  have hBr : 2 ≤ B ∧ B ≤ 36 := by omega
  have hMr : M ≤ 18446744073709551615 := by omega
  have sh : dBin .shl (.int .u64 1) (.int .u64 (bits : Int)) = some (.int .u64 (IntKind.u64.wrap ((M : Int) + 1))) := by
    rcases hM with ⟨rfl, rfl⟩ | ⟨rfl, rfl⟩ <;> rfl
  have wbits : IntKind.u64.wrap (bits : Int) = (bits : Int) := IntWalk.u64_in _ (by omega)
  have wM : IntKind.u64.wrap (IntKind.u64.wrap ((M : Int) + 1) - 1) = (M : Int) := by
    rcases hM with ⟨rfl, rfl⟩ | ⟨rfl, rfl⟩ <;> rfl
  simp -implicitDefEqProofs (disch := first | assumption | (simp only [wnA]; done) | (simp only [wnA]; omega) | omega | fail) [rc91_7, wkA, retV, stabOk, dC, ev, fillD, pickCells, putAt, bnd, slD, List.getElem?_cons_zero, List.getElem?_cons_succ, dR_sl, Mem.cell, Mem.row, wmA, t0, t2, sh, wbits, wM]
  rw [SK_s2b (s := s) (by simp [wkA, retV, stabOk, dC, ev, fillD, pickCells, putAt, bnd, slD, List.getElem?_cons_zero, List.getElem?_cons_succ, dR_sl]) hs]
  simp -implicitDefEqProofs (disch := first | assumption | (simp only [wnA]; done) | (simp only [wnA]; omega) | omega | fail) [wkA, retV, stabOk, dC, ev, fillD, pickCells, putAt, bnd, slD, List.getElem?_cons_zero, List.getElem?_cons_succ, dR_sl, Mem.cell, Mem.row, wmA]
  have o1 : Old m (m.push (.own (s.data.toList.map byteV) 5)) := (Old.refl m).push _
  have g1 : (m.push (.own (s.data.toList.map byteV) 5)).get m.next = .own (s.data.toList.map byteV) 5 := by simp
  generalize m.push (.own (s.data.toList.map byteV) 5) = m1 at *
  have hsz : s.data.toList.length = s.size := by simp
  refine LoopW_of (fun k ts' m' => ∃ j n, j + k = s.size ∧ m' = m1 ∧ ts' 1 = .int .i64 (B : Int) ∧ ts' 8 = .bool false ∧ ts' 10 = .int .u64 (C : Int) ∧ ts' 11 = .int .u64 (M : Int) ∧ ts' 12 = .bool false ∧ ts' 13 = .int .u64 ((n : Nat) : Int) ∧
    ts' 99 = .slice (some ⟨m.next, 0, none⟩) s.size 1 ∧ ts' 100 = .int .i64 (s.size : Nat) ∧ ts' 101 = .int .i64 (j : Nat) ∧ n ≤ M ∧ puL B M 0 s.data.toList = puL B M n (s.data.toList.drop j)) s.size ?_ ?_
  · exact ⟨0, 0, by omega, rfl, by simp [t1], by simp [t8], by simp [t10], by simp, by simp, by simp, by simp, by simp, by simp, by omega, by simp⟩
  · rintro k ts' m2 K ⟨j, n, hj, rfl, s1, s8, s10, s11, s12, s13, s99, s100, s101, hn, hpu⟩ hK
    simp -implicitDefEqProofs (disch := first | assumption | (simp only [wnA]; done) | (simp only [wnA]; omega) | omega | fail) [rc91_4, wkA, retV, stabOk, dC, ev, fillD, pickCells, putAt, bnd, slD, List.getElem?_cons_zero, List.getElem?_cons_succ, dR_sl, Mem.cell, Mem.row, wmA, s100, s101]
    by_cases hjl : j < s.size
    · have hjl' : j < s.data.toList.length := by omega
      obtain ⟨c, hc⟩ : ∃ c, s.data.toList[j] = c := ⟨_, rfl⟩
      have hat : (s.data.toList.map byteV)[j]? = some (byteV c) := by rw [List.getElem?_map, List.getElem?_eq_getElem hjl', hc]; rfl
      obtain ⟨hlt', hat'⟩ := List.getElem?_eq_some_iff.1 hat
      have hdr : s.data.toList.drop j = c :: s.data.toList.drop (j + 1) := by rw [List.drop_eq_getElem_cons hjl', hc]
      have hjw : IntKind.i64.wrap ((j : Int) + 1) = ((j + 1 : Nat) : Int) := by rw [w64 (by omega)]; omega
      have hcl : c.toNat < 256 := c.toNat_lt
      rw [hdr] at hpu
      have bad : puStep B M n c = none → puL B M 0 s.data.toList = none := fun h => by rw [hpu]; simp [puL, h]
      have good : ∀ n', puStep B M n c = some n' → puL B M 0 s.data.toList = puL B M n' (s.data.toList.drop (j + 1)) := fun n' h => by rw [hpu]; simp [puL, h]
      generalize s.data.toList.map byteV = row at *
      have tail : ∀ (ts2 : Fr) (d : Nat), dgt c = some d → d < 256 → ∀ {Q2 : AQ}, (∀ ts' m', Q2 .ret ts' m' = Q .ret ts' m') → (∀ ts', ts' 1 = ts2 1 → ts' 8 = ts2 8 → ts' 10 = ts2 10 → ts' 11 = ts2 11 → ts' 12 = ts2 12 → ts' 99 = ts2 99 → ts' 100 = ts2 100 → ts' 101 = ts2 101 → ts' 13 = .int .u64 ((n * B + d : Nat) : Int) → n * B + d ≤ M → puStep B M n c = some (n * B + d) → Q2 .normal ts' m2) →
          ts2 1 = .int .i64 (B : Int) → ts2 10 = .int .u64 (C : Int) → ts2 11 = .int .u64 (M : Int) → ts2 13 = .int .u64 (n : Int) → ts2 16 = .int .u8 (d : Int) → AbW Tryz.prog w0 rc91_2 Q2 ts2 m2 := by
        intro ts2 d hdg hd Q2 hr hq2 u1 u10 u11 u13 u16
        refine w_PUtail hC hBr ⟨hn, hMr⟩ hd u1 u10 u11 u13 u16 (fun ts' v c' h6 h7 hc' hv' hno => ?_) fun ts' r1 r8 r10 r11 r12 r99 r100 r101 r13 hdB hle => ?_
        · rw [hr]
          refine he ts' m2 v c' o1 h6 h7 hc' hv' (bad ?_)
          simp only [puStep, hdg]
          rw [if_neg hno]
        · exact hq2 ts' r1 r8 r10 r11 r12 r99 r100 r101 r13 hle (by simp only [puStep, hdg]; rw [if_pos ⟨hdB, hle⟩])
      have fin : ∀ (ts' : Fr) (d : Nat), ts' 1 = .int .i64 (B : Int) → ts' 8 = .bool false → ts' 10 = .int .u64 (C : Int) → ts' 11 = .int .u64 (M : Int) → ts' 12 = .bool false → ts' 99 = .slice (some ⟨m.next, 0, none⟩) s.size 1 → ts' 100 = .int .i64 (s.size : Nat) → ts' 101 = .int .i64 ((j + 1 : Nat) : Int) → ts' 13 = .int .u64 ((n * B + d : Nat) : Int) → n * B + d ≤ M → puStep B M n c = some (n * B + d) → K ts' m2 := fun ts' d r1 r8 r10 r11 r12 r99 r100 r101 r13 hle hp =>
        hK (k - 1) ts' m2 (by omega) ⟨j + 1, n * B + d, by omega, rfl, r1, r8, r10, r11, r12, r13, r99, r100, r101, hle, good _ hp⟩
      by_cases h95 : c.toNat = 95
      · have q1 : ((c.toNat : Int) == 95) = true := by simp [h95]
        have q3 : dgt c = none := by
          have hc95 : c = 95 := UInt8.toNat_inj.1 h95
          rw [hc95]; decide
        have q4 : lowN c = 127 := by
          have hc95 : c = 95 := UInt8.toNat_inj.1 h95
          rw [hc95]; decide
        have q5 : (48 : Int) ≤ (c.toNat : Int) := by omega
        have q2 : ¬ (c.toNat : Int) ≤ 57 := by omega
        simp -implicitDefEqProofs (disch := first | assumption | (simp only [wnA]; done) | (simp only [wnA]; omega) | omega | fail) [hjl, rc91_3, wkA, retV, stabOk, dC, ev, fillD, pickCells, putAt, bnd, slD, List.getElem?_cons_zero, List.getElem?_cons_succ, dR_sl, Mem.cell, Mem.row, wmA, s8, s99, s101, sidx_at, g1, hat, hat', byteV, q1, q2, q5]
        refine c_lower ?_
        simp -implicitDefEqProofs (disch := first | assumption | (simp only [wnA]; done) | (simp only [wnA]; omega) | omega | fail) [wkA, retV, stabOk, dC, ev, fillD, pickCells, putAt, bnd, slD, List.getElem?_cons_zero, List.getElem?_cons_succ, dR_sl, Mem.cell, Mem.row, wmA, q4]
        refine c_lower ?_
        simp -implicitDefEqProofs (disch := first | assumption | (simp only [wnA]; done) | (simp only [wnA]; omega) | omega | fail) [wkA, retV, stabOk, dC, ev, fillD, pickCells, putAt, bnd, slD, List.getElem?_cons_zero, List.getElem?_cons_succ, dR_sl, Mem.cell, Mem.row, wmA, q4]
        exact he _ m2 0 2 o1 (by simp) (by simp) (.inr rfl) (fun h => absurd h (by decide)) (bad (by simp [puStep, q3]))
      · have q1 : ((c.toNat : Int) == 95) = false := by simp; omega
        by_cases h48 : 48 ≤ c.toNat ∧ c.toNat ≤ 57
        · have hd : dgt c = some (c.toNat - 48) := by simp [dgt, h48]
          have i48 : (48 : Int) ≤ (c.toNat : Int) ∧ (c.toNat : Int) ≤ 57 := by omega
          have w8 : IntKind.u8.wrap ((c.toNat : Int) - 48) = ((c.toNat - 48 : Nat) : Int) := by rw [IntKind.wrap_u8]; omega
          simp -implicitDefEqProofs (disch := first | assumption | (simp only [wnA]; done) | (simp only [wnA]; omega) | omega | fail) [hjl, rc91_3, wkA, retV, stabOk, dC, ev, fillD, pickCells, putAt, bnd, slD, List.getElem?_cons_zero, List.getElem?_cons_succ, dR_sl, Mem.cell, Mem.row, wmA, s8, s99, s101, sidx_at, g1, hat, hat', byteV, q1, i48, w8]
          refine tail _ (c.toNat - 48) hd (by omega) ?_ ?_ ?_ ?_ ?_ ?_ ?_
          · intro ts3 m3; simp -implicitDefEqProofs (disch := first | assumption | (simp only [wnA]; done) | (simp only [wnA]; omega) | omega | fail) [wkA, retV, stabOk, dC, ev, fillD, pickCells, putAt, bnd, slD, List.getElem?_cons_zero, List.getElem?_cons_succ, dR_sl, Mem.cell, Mem.row, wmA]
          · intro ts3 r1 r8 r10 r11 r12 r99 r100 r101 r13 hle hp
            simp at r1 r8 r10 r11 r12 r99 r100 r101
            simp -implicitDefEqProofs (disch := first | assumption | (simp only [wnA]; done) | (simp only [wnA]; omega) | omega | fail) [wkA, retV, stabOk, dC, ev, fillD, pickCells, putAt, bnd, slD, List.getElem?_cons_zero, List.getElem?_cons_succ, dR_sl, Mem.cell, Mem.row, wmA, r101, s101, hjw]
            exact fin _ (c.toNat - 48) (by simp [r1, s1]) (by simp [r8, s8]) (by simp [r10, s10]) (by simp [r11, s11]) (by simp [r12, s12]) (by simp [r99, s99]) (by simp [r100, s100]) (by simp) (by simp [r13]) hle hp
          · simp [s1]
          · simp [s10]
          · simp [s11]
          · simp [s13]
          · simp
        · by_cases h97 : 97 ≤ lowN c ∧ lowN c ≤ 122
          · have hd : dgt c = some (lowN c - 97 + 10) := by simp only [dgt]; rw [if_neg h48, if_pos h97]
            have w8 : IntKind.u8.wrap (((lowN c : Nat) : Int) - 97) = ((lowN c - 97 : Nat) : Int) := by rw [IntKind.wrap_u8]; omega
            have w8' : IntKind.u8.wrap (((lowN c - 97 : Nat) : Int) + 10) = ((lowN c - 97 + 10 : Nat) : Int) := by rw [IntKind.wrap_u8]; omega
            have i97 : (97 : Int) ≤ ((lowN c : Nat) : Int) ∧ ((lowN c : Nat) : Int) ≤ 122 := by omega
            generalize hlo : lowN c = lo at *
            have cl : ∀ {R : Value → Mem → Prop}, R (.int .u8 ((lo : Nat) : Int)) m2 → AbC Tryz.prog w0 106 [.int .u8 (c.toNat : Int)] m2 R := fun h => c_lower (by rw [hlo]; exact h)
            generalize hE : lo - 97 = e at *
            by_cases h48a : (48 : Int) ≤ (c.toNat : Int)
            · have h57 : ¬ (c.toNat : Int) ≤ 57 := by omega
              simp -implicitDefEqProofs (disch := first | assumption | (simp only [wnA]; done) | (simp only [wnA]; omega) | omega | fail) [hjl, rc91_3, wkA, retV, stabOk, dC, ev, fillD, pickCells, putAt, bnd, slD, List.getElem?_cons_zero, List.getElem?_cons_succ, dR_sl, Mem.cell, Mem.row, wmA, s8, s99, s101, sidx_at, g1, hat, hat', byteV, q1, h48a, h57]
              refine cl ?_
              simp -implicitDefEqProofs (disch := first | assumption | (simp only [wnA]; done) | (simp only [wnA]; omega) | omega | fail) [wkA, retV, stabOk, dC, ev, fillD, pickCells, putAt, bnd, slD, List.getElem?_cons_zero, List.getElem?_cons_succ, dR_sl, Mem.cell, Mem.row, wmA, i97]
              refine cl ?_
              simp -implicitDefEqProofs (disch := first | assumption | (simp only [wnA]; done) | (simp only [wnA]; omega) | omega | fail) [wkA, retV, stabOk, dC, ev, fillD, pickCells, putAt, bnd, slD, List.getElem?_cons_zero, List.getElem?_cons_succ, dR_sl, Mem.cell, Mem.row, wmA, i97]
              refine cl ?_
              simp -implicitDefEqProofs (disch := first | assumption | (simp only [wnA]; done) | (simp only [wnA]; omega) | omega | fail) [wkA, retV, stabOk, dC, ev, fillD, pickCells, putAt, bnd, slD, List.getElem?_cons_zero, List.getElem?_cons_succ, dR_sl, Mem.cell, Mem.row, wmA, w8, w8']
              refine tail _ (e + 10) hd (by omega) ?_ ?_ ?_ ?_ ?_ ?_ ?_
              · intro ts3 m3; simp -implicitDefEqProofs (disch := first | assumption | (simp only [wnA]; done) | (simp only [wnA]; omega) | omega | fail) [wkA, retV, stabOk, dC, ev, fillD, pickCells, putAt, bnd, slD, List.getElem?_cons_zero, List.getElem?_cons_succ, dR_sl, Mem.cell, Mem.row, wmA]
              · intro ts3 r1 r8 r10 r11 r12 r99 r100 r101 r13 hle hp
                simp at r1 r8 r10 r11 r12 r99 r100 r101
                simp -implicitDefEqProofs (disch := first | assumption | (simp only [wnA]; done) | (simp only [wnA]; omega) | omega | fail) [wkA, retV, stabOk, dC, ev, fillD, pickCells, putAt, bnd, slD, List.getElem?_cons_zero, List.getElem?_cons_succ, dR_sl, Mem.cell, Mem.row, wmA, r101, s101, hjw]
                exact fin _ (e + 10) (by simp [r1, s1]) (by simp [r8, s8]) (by simp [r10, s10]) (by simp [r11, s11]) (by simp [r12, s12]) (by simp [r99, s99]) (by simp [r100, s100]) (by simp) (by simp [r13]) hle hp
              · simp [s1]
              · simp [s10]
              · simp [s11]
              · simp [s13]
              · simp
            · simp -implicitDefEqProofs (disch := first | assumption | (simp only [wnA]; done) | (simp only [wnA]; omega) | omega | fail) [hjl, rc91_3, wkA, retV, stabOk, dC, ev, fillD, pickCells, putAt, bnd, slD, List.getElem?_cons_zero, List.getElem?_cons_succ, dR_sl, Mem.cell, Mem.row, wmA, s8, s99, s101, sidx_at, g1, hat, hat', byteV, q1, h48a]
              refine cl ?_
              simp -implicitDefEqProofs (disch := first | assumption | (simp only [wnA]; done) | (simp only [wnA]; omega) | omega | fail) [wkA, retV, stabOk, dC, ev, fillD, pickCells, putAt, bnd, slD, List.getElem?_cons_zero, List.getElem?_cons_succ, dR_sl, Mem.cell, Mem.row, wmA, i97]
              refine cl ?_
              simp -implicitDefEqProofs (disch := first | assumption | (simp only [wnA]; done) | (simp only [wnA]; omega) | omega | fail) [wkA, retV, stabOk, dC, ev, fillD, pickCells, putAt, bnd, slD, List.getElem?_cons_zero, List.getElem?_cons_succ, dR_sl, Mem.cell, Mem.row, wmA, i97]
              refine cl ?_
              simp -implicitDefEqProofs (disch := first | assumption | (simp only [wnA]; done) | (simp only [wnA]; omega) | omega | fail) [wkA, retV, stabOk, dC, ev, fillD, pickCells, putAt, bnd, slD, List.getElem?_cons_zero, List.getElem?_cons_succ, dR_sl, Mem.cell, Mem.row, wmA, w8, w8']
              refine tail _ (e + 10) hd (by omega) ?_ ?_ ?_ ?_ ?_ ?_ ?_
              · intro ts3 m3; simp -implicitDefEqProofs (disch := first | assumption | (simp only [wnA]; done) | (simp only [wnA]; omega) | omega | fail) [wkA, retV, stabOk, dC, ev, fillD, pickCells, putAt, bnd, slD, List.getElem?_cons_zero, List.getElem?_cons_succ, dR_sl, Mem.cell, Mem.row, wmA]
              · intro ts3 r1 r8 r10 r11 r12 r99 r100 r101 r13 hle hp
                simp at r1 r8 r10 r11 r12 r99 r100 r101
                simp -implicitDefEqProofs (disch := first | assumption | (simp only [wnA]; done) | (simp only [wnA]; omega) | omega | fail) [wkA, retV, stabOk, dC, ev, fillD, pickCells, putAt, bnd, slD, List.getElem?_cons_zero, List.getElem?_cons_succ, dR_sl, Mem.cell, Mem.row, wmA, r101, s101, hjw]
                exact fin _ (e + 10) (by simp [r1, s1]) (by simp [r8, s8]) (by simp [r10, s10]) (by simp [r11, s11]) (by simp [r12, s12]) (by simp [r99, s99]) (by simp [r100, s100]) (by simp) (by simp [r13]) hle hp
              · simp [s1]
              · simp [s10]
              · simp [s11]
              · simp [s13]
              · simp
          · have hd : dgt c = none := by simp only [dgt]; rw [if_neg h48, if_neg h97]
            generalize hlo : lowN c = lo at *
            have cl : ∀ {R : Value → Mem → Prop}, R (.int .u8 ((lo : Nat) : Int)) m2 → AbC Tryz.prog w0 106 [.int .u8 (c.toNat : Int)] m2 R := fun h => c_lower (by rw [hlo]; exact h)
            have out : ∀ ts3 : Fr, ts3 6 = .int .u64 0 → ts3 7 = .iface 168 (.int .i64 2) → Q .ret ts3 m2 := fun ts3 e6 e7 => he ts3 m2 0 2 o1 e6 e7 (.inr rfl) (fun h => absurd h (by decide)) (bad (by simp [puStep, hd]))
            by_cases h48a : (48 : Int) ≤ (c.toNat : Int)
            · have h57 : ¬ (c.toNat : Int) ≤ 57 := by omega
              simp -implicitDefEqProofs (disch := first | assumption | (simp only [wnA]; done) | (simp only [wnA]; omega) | omega | fail) [hjl, rc91_3, wkA, retV, stabOk, dC, ev, fillD, pickCells, putAt, bnd, slD, List.getElem?_cons_zero, List.getElem?_cons_succ, dR_sl, Mem.cell, Mem.row, wmA, s8, s99, s101, sidx_at, g1, hat, hat', byteV, q1, h48a, h57]
              refine cl ?_
              by_cases hl1 : (97 : Int) ≤ (lo : Int)
              · have hl2 : ¬ (lo : Int) ≤ 122 := by omega
                simp -implicitDefEqProofs (disch := first | assumption | (simp only [wnA]; done) | (simp only [wnA]; omega) | omega | fail) [wkA, retV, stabOk, dC, ev, fillD, pickCells, putAt, bnd, slD, List.getElem?_cons_zero, List.getElem?_cons_succ, dR_sl, Mem.cell, Mem.row, wmA, hl1]
                refine cl ?_
                simp -implicitDefEqProofs (disch := first | assumption | (simp only [wnA]; done) | (simp only [wnA]; omega) | omega | fail) [wkA, retV, stabOk, dC, ev, fillD, pickCells, putAt, bnd, slD, List.getElem?_cons_zero, List.getElem?_cons_succ, dR_sl, Mem.cell, Mem.row, wmA, hl2]
                exact out _ (by simp) (by simp)
              · simp -implicitDefEqProofs (disch := first | assumption | (simp only [wnA]; done) | (simp only [wnA]; omega) | omega | fail) [wkA, retV, stabOk, dC, ev, fillD, pickCells, putAt, bnd, slD, List.getElem?_cons_zero, List.getElem?_cons_succ, dR_sl, Mem.cell, Mem.row, wmA, hl1]
                exact out _ (by simp) (by simp)
            · simp -implicitDefEqProofs (disch := first | assumption | (simp only [wnA]; done) | (simp only [wnA]; omega) | omega | fail) [hjl, rc91_3, wkA, retV, stabOk, dC, ev, fillD, pickCells, putAt, bnd, slD, List.getElem?_cons_zero, List.getElem?_cons_succ, dR_sl, Mem.cell, Mem.row, wmA, s8, s99, s101, sidx_at, g1, hat, hat', byteV, q1, h48a]
              refine cl ?_
              by_cases hl1 : (97 : Int) ≤ (lo : Int)
              · have hl2 : ¬ (lo : Int) ≤ 122 := by omega
                simp -implicitDefEqProofs (disch := first | assumption | (simp only [wnA]; done) | (simp only [wnA]; omega) | omega | fail) [wkA, retV, stabOk, dC, ev, fillD, pickCells, putAt, bnd, slD, List.getElem?_cons_zero, List.getElem?_cons_succ, dR_sl, Mem.cell, Mem.row, wmA, hl1]
                refine cl ?_
                simp -implicitDefEqProofs (disch := first | assumption | (simp only [wnA]; done) | (simp only [wnA]; omega) | omega | fail) [wkA, retV, stabOk, dC, ev, fillD, pickCells, putAt, bnd, slD, List.getElem?_cons_zero, List.getElem?_cons_succ, dR_sl, Mem.cell, Mem.row, wmA, hl2]
                exact out _ (by simp) (by simp)
              · simp -implicitDefEqProofs (disch := first | assumption | (simp only [wnA]; done) | (simp only [wnA]; omega) | omega | fail) [wkA, retV, stabOk, dC, ev, fillD, pickCells, putAt, bnd, slD, List.getElem?_cons_zero, List.getElem?_cons_succ, dR_sl, Mem.cell, Mem.row, wmA, hl1]
                exact out _ (by simp) (by simp)
    · have hjj : j = s.size := by omega
      subst hjj
      rw [List.drop_eq_nil_of_le (by omega)] at hpu
      simp -implicitDefEqProofs (disch := first | assumption | (simp only [wnA]; done) | (simp only [wnA]; omega) | omega | fail) [hjl, rc91_6, rc91_5, wkA, retV, stabOk, dC, ev, fillD, pickCells, putAt, bnd, slD, List.getElem?_cons_zero, List.getElem?_cons_succ, dR_sl, Mem.cell, Mem.row, wmA, s12, s13]
      exact hq _ _ n o1 (by simp) (by simp) hpu
end Go.Proofs.YtiapjjgmmiifmaaGreatDoor.Ab

set_option linter.unusedVariables false
set_option linter.unusedSimpArgs false
namespace Go.Proofs.YtiapjjgmmiifmaaGreatDoor.Ab
open Go Go.RowKit
set_option maxHeartbeats 4000000
set_option maxRecDepth 100000
theorem c_iPU {w0 : World} {m : Mem} {B M bits : Nat} {s : ByteArray} {Q : Value → Mem → Prop} (hB : B = 8 ∨ B = 10 ∨ B = 16) (hM : (bits = 32 ∧ M = 4294967295) ∨ (bits = 64 ∧ M = 18446744073709551615)) (hs : s.size ≤ 140737488355328)
    (he : ∀ m' v c, Old m m' → (c = 1 ∨ c = 2) → (s.size = 0 → c = 2) → (c = 1 → v = (M : Int)) → (s.size = 0 ∨ puL B M 0 s.data.toList = none) → Q (.tuple ⟨[.int .u64 v, .iface 168 (.int .i64 c)]⟩) m')
    (hq : ∀ m' v, Old m m' → s.size ≠ 0 → puL B M 0 s.data.toList = some v → Q (.tuple ⟨[.int .u64 ((v : Nat) : Int), .nilIface]⟩) m') :
    AbC Tryz.prog w0 91 [.string s, .int .i64 (B : Int), .int .i64 (bits : Int)] m Q := by
  refine AbC_fn ok91 (by simp) ?_
  simp -implicitDefEqProofs (disch := first | assumption | (simp only [wnA]; done) | (simp only [wnA]; omega) | omega | fail) [rc91, ro91, wkA, retV, stabOk, dC, ev, fillD, pickCells, putAt, bnd, slD, List.getElem?_cons_zero, List.getElem?_cons_succ, dR_sl, Mem.cell, Mem.row, wmA]
  by_cases h0 : s.size = 0
  · have hem : s.data.isEmpty = true := Array.isEmpty_iff_size_eq_zero.2 h0
    simp -implicitDefEqProofs (disch := first | assumption | (simp only [wnA]; done) | (simp only [wnA]; omega) | omega | fail) [wkA, retV, stabOk, dC, ev, fillD, pickCells, putAt, bnd, slD, List.getElem?_cons_zero, List.getElem?_cons_succ, dR_sl, Mem.cell, Mem.row, wmA, hem]
    exact he _ 0 2 (Old.refl m) (.inr rfl) (fun _ => rfl) (fun h => absurd h (by decide)) (.inl h0)
  · have hem : s.data.isEmpty = false := by
      cases hx : s.data.isEmpty with
      | false => rfl
      | true => exact (h0 (Array.isEmpty_iff_size_eq_zero.1 hx)).elim
    have f1 : (2 : Int) ≤ (B : Int) ∧ (B : Int) ≤ 36 := by omega
    have f2 : (B : Int) ≠ 0 := by omega
    have f3 : (bits : Int) ≠ 0 := by omega
    have f4 : ¬ (bits : Int) < 0 := by omega
    have f5 : ¬ (64 : Int) < (bits : Int) := by omega
    have he' : ∀ (ts' : Fr) (m' : Mem) (v c : Int), Old m m' → ts' 6 = .int .u64 v → ts' 7 = .iface 168 (.int .i64 c) → (c = 1 ∨ c = 2) → (c = 1 → v = (M : Int)) → puL B M 0 s.data.toList = none → bodyA ro91 Q .ret ts' m' := fun ts' m' v c o e6 e7 hc hvM hn => by
      simp -implicitDefEqProofs (disch := first | assumption | (simp only [wnA]; done) | (simp only [wnA]; omega) | omega | fail) [ro91, wkA, retV, stabOk, dC, ev, fillD, pickCells, putAt, bnd, slD, List.getElem?_cons_zero, List.getElem?_cons_succ, dR_sl, Mem.cell, Mem.row, wmA, e6, e7]
      exact he m' v c o hc (fun h => absurd h h0) hvM (.inr hn)
    have hq' : ∀ (ts' : Fr) (m' : Mem) (v : Nat), Old m m' → ts' 6 = .int .u64 ((v : Nat) : Int) → ts' 7 = .nilIface → puL B M 0 s.data.toList = some v → bodyA ro91 Q .ret ts' m' := fun ts' m' v o e6 e7 hv => by
      simp -implicitDefEqProofs (disch := first | assumption | (simp only [wnA]; done) | (simp only [wnA]; omega) | omega | fail) [ro91, wkA, retV, stabOk, dC, ev, fillD, pickCells, putAt, bnd, slD, List.getElem?_cons_zero, List.getElem?_cons_succ, dR_sl, Mem.cell, Mem.row, wmA, e6, e7]
      exact hq m' v o h0 hv
    simp only [ro91] at he' hq'
    rcases hB with rfl | rfl | rfl
    · have w2 : dBin .quo (.int .u64 18446744073709551615) (.int .u64 8) = some (.int .u64 2305843009213693951) := rfl
      have w3 : IntKind.u64.wrap 2305843009213693952 = 2305843009213693952 := rfl
      have w4 : IntKind.u64.wrap 8 = 8 := rfl
      simp -implicitDefEqProofs (disch := first | assumption | (simp only [wnA]; done) | (simp only [wnA]; omega) | omega | fail) [wkA, retV, stabOk, dC, ev, fillD, pickCells, putAt, bnd, slD, List.getElem?_cons_zero, List.getElem?_cons_succ, dR_sl, Mem.cell, Mem.row, wmA, hem, rc91_10, rc91_9, rc91_8, beqF f3, f4, f5, w2, w3, w4]
      exact w_PUloop (B := 8) (C := 2305843009213693952) (by omega) (.inl rfl) hM hs (by simp [frA_at]) (by simp [frA_at]) (by simp [frA_at]) (by simp) (by simp) he' hq'
    · simp -implicitDefEqProofs (disch := first | assumption | (simp only [wnA]; done) | (simp only [wnA]; omega) | omega | fail) [wkA, retV, stabOk, dC, ev, fillD, pickCells, putAt, bnd, slD, List.getElem?_cons_zero, List.getElem?_cons_succ, dR_sl, Mem.cell, Mem.row, wmA, hem, rc91_10, rc91_9, rc91_8, beqF f3, f4, f5]
      exact w_PUloop (B := 10) (C := 1844674407370955162) (by omega) (.inr (.inl rfl)) hM hs (by simp [frA_at]) (by simp [frA_at]) (by simp [frA_at]) (by simp) (by simp) he' hq'
    · simp -implicitDefEqProofs (disch := first | assumption | (simp only [wnA]; done) | (simp only [wnA]; omega) | omega | fail) [wkA, retV, stabOk, dC, ev, fillD, pickCells, putAt, bnd, slD, List.getElem?_cons_zero, List.getElem?_cons_succ, dR_sl, Mem.cell, Mem.row, wmA, hem, rc91_10, rc91_9, rc91_8, beqF f3, f4, f5]
      exact w_PUloop (B := 16) (C := 1152921504606846976) (by omega) (.inr (.inr rfl)) hM hs (by simp [frA_at]) (by simp [frA_at]) (by simp [frA_at]) (by simp) (by simp) he' hq'
theorem St.dead {P : Program} {w0 w : World} {G : Loc} {m : Mem} (h : St P w0 G m w) (x : Nat × Nat × Nat) : Loc.le G (fun i => if i = m.next then some x else G i) ∧ St P w0 (fun i => if i = m.next then some x else G i) (m.push .dead) w := by
  have hle : Loc.le G (fun i => if i = m.next then some x else G i) := by
    intro i y hy
    have := h.dom i y hy
    show (if i = m.next then some x else G i) = some y
    rw [if_neg (by omega)]; exact hy
  refine ⟨hle, h.below, ?_, ?_, ?_, ?_, ?_, ?_⟩
  · intro i y hy
    by_cases hi : i = m.next
    · subst hi; simp
    · simp only [hi, if_false] at hy
      have := h.dom i y hy
      simp; omega
  · intro i B b S hd hx
    by_cases hi : i = m.next
    · subst hi; simp at hd
    · simp only [hi, if_false] at hx
      exact h.lim i B b S (by simpa only [Mem.push_get, hi, if_false] using hd) hx
  · intro i hd
    by_cases hi : i = m.next
    · subst hi; simp at hd
    · simp only [Mem.push_get, hi, if_false] at hd ⊢
      obtain ⟨B, b, S, hg, hr⟩ := h.ent i hd
      exact ⟨B, b, S, hg, hr.mono hle⟩
  · intro i j B y z hi hj gi gj
    have key : ∀ k, ((m.push .dead).get k).mine = true → k ≠ m.next ∧ (m.get k).mine = true := by
      intro k hk
      by_cases e : k = m.next
      · subst e; simp [Ent.mine] at hk
      · exact ⟨e, by simpa only [Mem.push_get, e, if_false] using hk⟩
    obtain ⟨e1, k1⟩ := key i hi
    obtain ⟨e2, k2⟩ := key j hj
    simp only [e1, e2, if_false] at gi gj
    exact h.inj i j B y z k1 k2 gi gj
  · intro g hg
    obtain ⟨S, hS⟩ := h.glob g hg
    exact ⟨S, hle _ _ hS⟩
  · intro i cs e B b S hi hx
    by_cases h1 : i = m.next
    · subst h1; simp at hi
    · simp only [Mem.push_get, h1, if_false] at hi hx
      exact h.ali i cs e B b S hi hx
theorem c_callsP {P : Program} {w0 : World} {m : Mem} {f : FuncId} {args : List Value} {T : TypeId} {Q : Value → Mem → Prop} (hcall : callOk P f = true) (ha : args.all (plainV 6) = true)
    (h : ∀ (G : Loc) (w : World), St P w0 G m w → Calls P f args.toArray w fun e w' => ∃ N, e = .returned (.iface T (.pointer (some ⟨N, 0, none⟩))) ∧ Below w.heap.size w w') (hq : Q (.iface T (.pointer (some ⟨m.next, 0, none⟩))) (m.push .dead)) : AbC P w0 f args m Q := by
  intro G w args' hs hargs
  have ha' : ∀ u ∈ args, plainV 6 u = true := by simpa [List.all_eq_true] using ha
  have he : args' = args := VRs.plain_eq hargs fun u hu u' hr => VR.plain_eq 6 u u' (ha' u hu) hr
  subst he
  rw [run_callFunc_enter hcall]
  show Calls _ _ _ _ _
  refine (h G w hs).mono ?_
  rintro e w' ⟨N, rfl, hb⟩
  obtain ⟨h1, h2⟩ := (hs.grown hb).dead (N, 0, 0)
  exact ⟨_, rfl, _, _, _, h1, .iface _ _ _ (.ptr m.next 0 N 0 0 (by simp)), h2, hq⟩
def IfaceAt (w : World) (g : Nat) : Prop := ∃ ev, w.cell? ⟨g, 0, none⟩ = some ev ∧ (ev = .nilIface ∨ ∃ t p, ev = .iface t p)
/-- The library's two errors lie in the world. -/
abbrev ErrV (w : World) : Prop := IfaceAt w 4 ∧ IfaceAt w 5
theorem ifaceAt {P : Program} {w0 w : World} {G : Loc} {m : Mem} {g : Nat} (h : IfaceAt w0 g) (hs : St P w0 G m w) : IfaceAt w g := by
  obtain ⟨ev, h1, h2⟩ := h
  refine ⟨ev, ?_, h2⟩
  have hlt : g < w0.heap.size := by
    rcases Nat.lt_or_ge g w0.heap.size with h' | h'
    · exact h'
    · simp [World.cell?, Array.getElem?_eq_none h'] at h1
  unfold World.cell? at h1 ⊢
  rw [hs.below.block g hlt]; exact h1
theorem c_toError {w0 : World} {m : Mem} {fn s : ByteArray} {base bits c : Int} {Q : Value → Mem → Prop} (hE : ErrV w0) (hc : c = 1 ∨ c = 2) (hs : s.size ≤ 140737488355328) (hq : Q (.iface 170 (.pointer (some ⟨m.next, 0, none⟩))) (m.push .dead)) :
    AbC Tryz.prog w0 92 [.string fn, .string s, .int .i64 base, .int .i64 bits, .iface 168 (.int .i64 c)] m Q := by
  refine c_callsP (T := 170) (by kernel_rfl) (by rcases hc with rfl | rfl <;> rfl) (fun G w hst => ?_) hq
  rcases hc with rfl | rfl
  · obtain ⟨ev, h1, h2⟩ := ifaceAt hE.2 hst
    refine (Tryz.strconv_toError_range fn s base bits ev w (by omega) h1 h2).mono ?_
    rintro e w' ⟨N, rfl, -, -, hb⟩
    exact ⟨N, rfl, hb⟩
  · obtain ⟨ev, h1, h2⟩ := ifaceAt hE.1 hst
    refine (Tryz.strconv_toError_syntax fn s base bits ev w (by omega) h1 h2).mono ?_
    rintro e w' ⟨N, rfl, -, -, hb⟩
    exact ⟨N, rfl, hb⟩
theorem laid_iface {P : Program} {W : World} {l : List (String × DataW Unit)} {name tn : String} {d : DataW Unit} {g t : Nat} {ms : Array _} (h : laidMet P l W) (hm : (name, .iface tn d) ∈ l)
    (hg : P.globalNamed name = some g) (hty : (P.globals[g]?).map (·.type) = some t) (ht : P.underlying t = some (.interface ms)) : IfaceAt W g := by
  obtain ⟨ps, hv, _⟩ := h
  obtain ⟨g', t', cs, fuel, p, h1, h2, h3, h4⟩ := laid_mem hv hm
  obtain rfl := Option.some.inj (hg.symm.trans h1)
  obtain rfl := Option.some.inj (hty.symm.trans h2)
  cases fuel with
  | zero => simp [DataW.trod] at h4
  | succ fuel =>
    have hc := fun v (hv : cs.toList = [v]) => by
      have : W.cell? ⟨g, 0, none⟩ = some v := by
        have := World.var?_cell hg h3 0
        rw [this]
        have e : cs[0]? = cs.toList[0]? := by simp
        rw [e, hv]; rfl
      exact this
    simp only [DataW.trod, ht] at h4
    split at h4 <;> first
      | (cases ‹some (TypeDesc.interface ms) = some _›; done)
      | (cases ‹some (TypeDesc.interface ms) = some _›; first
          | (simp at h4; done)
          | exact ⟨_, hc _ ‹cs.toList = _›, .inr ⟨_, _, rfl⟩⟩)
      | (simp at h4; done)
theorem errV_of {W : World} {l : List (String × DataW Unit)} {d1 d2 : DataW Unit} (h : laidMet Tryz.prog l W) (h1 : ("strconv.ErrSyntax", .iface "*errors.errorString" d1) ∈ l) (h2 : ("strconv.ErrRange", .iface "*errors.errorString" d2) ∈ l) : ErrV W :=
  ⟨laid_iface (g := 4) (t := 97) h h1 (by kernel_rfl) (by kernel_rfl) Tryz.underlying97, laid_iface (g := 5) (t := 97) h h2 (by kernel_rfl) (by kernel_rfl) Tryz.underlying97⟩
theorem c_ParseUint {w0 : World} {m : Mem} {B M bits : Nat} {s : ByteArray} {Q : Value → Mem → Prop} (hE : ErrV w0) (hB : B = 8 ∨ B = 10 ∨ B = 16) (hM : (bits = 32 ∧ M = 4294967295) ∨ (bits = 64 ∧ M = 18446744073709551615)) (hs : s.size ≤ 140737488355328)
    (he : ∀ m' v p, Old m m' → (s.size = 0 ∨ puL B M 0 s.data.toList = none) → Q (.tuple ⟨[.int .u64 v, .iface 170 p]⟩) m')
    (hq : ∀ m' v, Old m m' → s.size ≠ 0 → puL B M 0 s.data.toList = some v → Q (.tuple ⟨[.int .u64 ((v : Nat) : Int), .nilIface]⟩) m') :
    AbC Tryz.prog w0 77 [.string s, .int .i64 (B : Int), .int .i64 (bits : Int)] m Q := by
  refine AbC_fn ok77 (by simp) ?_
  simp -implicitDefEqProofs (disch := first | assumption | (simp only [wnA]; done) | (simp only [wnA]; omega) | omega | fail) [rc77, ro77, wkA, retV, stabOk, dC, ev, fillD, pickCells, putAt, bnd, slD, List.getElem?_cons_zero, List.getElem?_cons_succ, dR_sl, Mem.cell, Mem.row, wmA]
  refine c_iPU hB hM hs (fun m1 v c o1 hc _ _ hn => ?_) fun m1 v o1 h0 hv => ?_
  · simp -implicitDefEqProofs (disch := first | assumption | (simp only [wnA]; done) | (simp only [wnA]; omega) | omega | fail) [wkA, retV, stabOk, dC, ev, fillD, pickCells, putAt, bnd, slD, List.getElem?_cons_zero, List.getElem?_cons_succ, dR_sl, Mem.cell, Mem.row, wmA]
    refine c_toError hE hc hs ?_
    simp -implicitDefEqProofs (disch := first | assumption | (simp only [wnA]; done) | (simp only [wnA]; omega) | omega | fail) [wkA, retV, stabOk, dC, ev, fillD, pickCells, putAt, bnd, slD, List.getElem?_cons_zero, List.getElem?_cons_succ, dR_sl, Mem.cell, Mem.row, wmA]
    exact he _ v _ (o1.push _) hn
  · simp -implicitDefEqProofs (disch := first | assumption | (simp only [wnA]; done) | (simp only [wnA]; omega) | omega | fail) [wkA, retV, stabOk, dC, ev, fillD, pickCells, putAt, bnd, slD, List.getElem?_cons_zero, List.getElem?_cons_succ, dR_sl, Mem.cell, Mem.row, wmA, rc77_0]
    exact hq m1 v o1 h0 hv
end Go.Proofs.YtiapjjgmmiifmaaGreatDoor.Ab

set_option linter.unusedVariables false
set_option linter.unusedSimpArgs false
namespace Go.Proofs.YtiapjjgmmiifmaaGreatDoor.Ab
open Go Go.RowKit
def ieqW (neg : Bool) (tt : List TypeId) (a b : Value) : Option Value := if bothNil a b = true then none else match dEq (.iface tt) a b with
  | some r => some (.bool (if neg then !r else r))
  | none => none
theorem dR_ieq {ts : Fr} {m : Mem} {neg : Bool} {tt : List TypeId} {x y : Operand} : dR ts m (.ieq neg tt x y) = ieqW neg tt (ev ts x) (ev ts y) := by
  unfold ieqW
  rw [dR]
  rfl
theorem ieqW_ii {neg : Bool} {l : List TypeId} {t : TypeId} {k : IntKind} {a b : Int} : ieqW neg l (.iface t (.int k a)) (.iface t (.int k b)) = if l.contains t = true then some (.bool (if neg then !(a == b) else (a == b))) else none := by
  by_cases h : t ∈ l <;> simp [ieqW, bothNil, dEq, h]
theorem ieqW_nl {neg : Bool} {l : List TypeId} {t : TypeId} {v : Value} : ieqW neg l .nilIface (.iface t v) = some (.bool neg) := by
  cases neg <;> simp [ieqW, dEq]
theorem ieqW_nr {neg : Bool} {l : List TypeId} {t : TypeId} {v : Value} : ieqW neg l (.iface t v) .nilIface = some (.bool neg) := by
  cases neg <;> simp [ieqW, dEq]
end Go.Proofs.YtiapjjgmmiifmaaGreatDoor.Ab

set_option linter.unusedVariables false
set_option linter.unusedSimpArgs false
namespace Go.Proofs.YtiapjjgmmiifmaaGreatDoor.Ab
open Go Go.RowKit
set_option maxHeartbeats 4000000
set_option maxRecDepth 100000
theorem dgt_digC : ∀ d : Fin 36, dgt (digC d.val) = some d.val ∧ digC d.val ≠ 43 ∧ digC d.val ≠ 45 := by decide +kernel
theorem puL_snoc {B M : Nat} (c : UInt8) : ∀ (l : List UInt8) (n : Nat), puL B M n (l ++ [c]) = (puL B M n l).bind fun n' => puStep B M n' c
  | [], n => by
    simp only [List.nil_append, puL, Option.bind_some]
    cases puStep B M n c <;> rfl
  | a :: l, n => by
    simp only [List.cons_append, puL]
    cases puStep B M n a with
    | none => rfl
    | some n' => exact puL_snoc c l n'
theorem puL_digs {B M : Nat} (hB : 2 ≤ B ∧ B ≤ 36) : ∀ n, n ≤ M → puL B M 0 (digs B n) = some n := by
  intro n
  induction n using Nat.strongRecOn with
  | _ n ih =>
    intro hn
    by_cases h : n < B
    · rw [digs_lt h]
      simp only [puL, puStep, (dgt_digC ⟨n, by omega⟩).1]
      rw [if_pos ⟨h, by omega⟩]
      simp
    · have h1 : n / B < n := Nat.div_lt_self (by omega) (by omega)
      have h2 : n % B < B := Nat.mod_lt _ (by omega)
      have h3 : n / B * B + n % B = n := Nat.div_add_mod' n B
      rw [digs_ge (by omega) (by omega), puL_snoc, ih _ h1 (by omega)]
      simp only [Option.bind_some, puStep, (dgt_digC ⟨n % B, by omega⟩).1]
      rw [if_pos ⟨h2, by omega⟩, h3]
theorem numS_ofNat {B n : Nat} : numS B (n : Int) = digs B n := by
  unfold numS sgn
  have h : decide ((n : Int) < 0) = false := by simp
  rw [h]
  simp
theorem digs_sgn {B : Nat} (hB : 2 ≤ B ∧ B ≤ 36) : ∀ n, ∀ c ∈ digs B n, c ≠ 43 ∧ c ≠ 45 := by
  intro n
  induction n using Nat.strongRecOn with
  | _ n ih =>
    intro c hc
    by_cases h : n < B
    · rw [digs_lt h] at hc
      simp at hc; subst hc
      exact (dgt_digC ⟨n, by omega⟩).2
    · have h1 : n / B < n := Nat.div_lt_self (by omega) (by omega)
      have h2 : n % B < B := Nat.mod_lt _ (by omega)
      rw [digs_ge (by omega) (by omega), List.mem_append] at hc
      rcases hc with hc | hc
      · exact ih _ h1 c hc
      · simp at hc; subst hc
        exact (dgt_digC ⟨n % B, by omega⟩).2
theorem digs_none {B : Nat} (hB : B = 8 ∨ B = 10 ∨ B = 16) {s : ByteArray} (h : s.size = 0 ∨ puL B 18446744073709551615 0 s.data.toList = none) {k : Nat} (hk : k < 9223372036854775808) : s.data.toList ≠ digs B k := by
  intro e
  rcases h with h | h
  · have := digs_pos B k
    rw [← e] at this
    simp at this
    omega
  · rw [e, puL_digs (by omega) k (by omega)] at h
    cases h
theorem digs_some {B : Nat} (hB : B = 8 ∨ B = 10 ∨ B = 16) {s : ByteArray} {v : Nat} (h : puL B 18446744073709551615 0 s.data.toList = some v) {k : Nat} (hk : k < 9223372036854775808) (e : s.data.toList = digs B k) : v = k := by
  rw [e, puL_digs (by omega) k (by omega)] at h
  exact (Option.some.inj h).symm
theorem dEq_ii {l : List TypeId} {t : TypeId} {k : IntKind} {a b : Int} : dEq (.iface l) (.iface t (.int k a)) (.iface t (.int k b)) = if l.contains t = true then some (a == b) else none := by
  simp [dEq]
theorem w_PItail {w0 : World} {Q : AQ} {ts : Fr} {m : Mem} {B : Nat} {neg : Bool} {s : ByteArray} (hB : B = 8 ∨ B = 10 ∨ B = 16) (hs : s.size ≤ 140737488355328)
    (t0 : ts 0 = .string s) (t1 : ts 1 = .int .i64 (B : Int)) (t2 : ts 2 = .int .i64 64) (t8 : ts 8 = .bool neg)
    (he : ∀ ts' m' n c, Old m m' → ts' 6 = .int .i64 n → ts' 7 = .iface 168 (.int .i64 c) → (c = 1 ∨ c = 2) → (neg = false → ∀ k, k < 9223372036854775808 → s.data.toList ≠ digs B k) → Q .ret ts' m')
    (hq : ∀ ts' m' n, Old m m' → ts' 6 = .int .i64 n → ts' 7 = .nilIface → (neg = false → ∀ k, k < 9223372036854775808 → s.data.toList = digs B k → n = (k : Int)) → Q .ret ts' m') :
    AbW Tryz.prog w0 rc115_5 Q ts m := by
  have w1 : IntKind.i64.wrap 63 = 63 := rfl
  have w2 : IntKind.u64.wrap 63 = 63 := rfl
  have w3 : dBin .shl (.int .u64 1) (.int .u64 63) = some (.int .u64 9223372036854775808) := rfl
  have w4 : IntKind.u64.wrap 9223372036854775807 = 9223372036854775807 := rfl
  have w5 : IntKind.i64.wrap 9223372036854775807 = 9223372036854775807 := rfl
  simp -implicitDefEqProofs (disch := first | assumption | (simp only [wnA]; done) | (simp only [wnA]; omega) | omega | fail) [rc115_5, wkA, retV, stabOk, dC, ev, fillD, pickCells, putAt, bnd, slD, List.getElem?_cons_zero, List.getElem?_cons_succ, dR.eq_20, Mem.cell, Mem.row, wmA, t0, t1, t2]
  refine c_iPU (bits := 64) hB (.inr ⟨rfl, rfl⟩) hs (fun m1 v c o1 hc h0 hv hn => ?_) fun m1 v o1 h0 hv => ?_
  · have hno : neg = false → ∀ k, k < 9223372036854775808 → s.data.toList ≠ digs B k := fun _ k hk => digs_none hB hn hk
    rcases hc with rfl | rfl
    · have hv := hv rfl
      subst hv
      simp -implicitDefEqProofs (disch := first | assumption | (simp only [wnA]; done) | (simp only [wnA]; omega) | omega | fail) [wkA, retV, stabOk, dC, ev, fillD, pickCells, putAt, bnd, slD, List.getElem?_cons_zero, List.getElem?_cons_succ, dR.eq_20, Mem.cell, Mem.row, wmA, dEq_ii, dR_ieq, ieqW_ii, ieqW_nl, ieqW_nr, rc115_4, rc115_3, rc115_2, t2, t8, w1, w2, w3]
      cases neg with
      | false =>
        simp -implicitDefEqProofs (disch := first | assumption | (simp only [wnA]; done) | (simp only [wnA]; omega) | omega | fail) [wkA, retV, stabOk, dC, ev, fillD, pickCells, putAt, bnd, slD, List.getElem?_cons_zero, List.getElem?_cons_succ, dR.eq_20, Mem.cell, Mem.row, wmA, t8, w4, w5]
        exact he _ m1 _ 1 o1 (by rfl) (by rfl) (.inl rfl) hno
      | true =>
        simp -implicitDefEqProofs (disch := first | assumption | (simp only [wnA]; done) | (simp only [wnA]; omega) | omega | fail) [wkA, retV, stabOk, dC, ev, fillD, pickCells, putAt, bnd, slD, List.getElem?_cons_zero, List.getElem?_cons_succ, dR.eq_20, Mem.cell, Mem.row, wmA, t8, w4, w5]
        exact he _ m1 _ 1 o1 (by rfl) (by rfl) (.inl rfl) hno
    · simp -implicitDefEqProofs (disch := first | assumption | (simp only [wnA]; done) | (simp only [wnA]; omega) | omega | fail) [wkA, retV, stabOk, dC, ev, fillD, pickCells, putAt, bnd, slD, List.getElem?_cons_zero, List.getElem?_cons_succ, dR.eq_20, Mem.cell, Mem.row, wmA, dEq_ii, dR_ieq, ieqW_ii, ieqW_nl, ieqW_nr]
      exact he _ m1 0 2 o1 (by simp) (by simp) (.inr rfl) hno
  · simp -implicitDefEqProofs (disch := first | assumption | (simp only [wnA]; done) | (simp only [wnA]; omega) | omega | fail) [wkA, retV, stabOk, dC, ev, fillD, pickCells, putAt, bnd, slD, List.getElem?_cons_zero, List.getElem?_cons_succ, dR.eq_20, Mem.cell, Mem.row, wmA, dEq_ii, dR_ieq, ieqW_ii, ieqW_nl, ieqW_nr, rc115_4, rc115_3, rc115_2, t2, t8, w1, w2, w3]
    by_cases h1 : v < 9223372036854775808
    · have h2 : ¬ (9223372036854775808 : Int) ≤ (v : Int) := by omega
      have h3 : ¬ (9223372036854775808 : Int) < (v : Int) := by omega
      have h4 : IntKind.i64.wrap (v : Int) = (v : Int) := w64 (by omega)
      have hk : ∀ k, k < 9223372036854775808 → s.data.toList = digs B k → (v : Int) = (k : Int) := fun k hk e => by rw [digs_some hB hv hk e]
      cases neg with
      | false =>
        simp -implicitDefEqProofs (disch := first | assumption | (simp only [wnA]; done) | (simp only [wnA]; omega) | omega | fail) [wkA, retV, stabOk, dC, ev, fillD, pickCells, putAt, bnd, slD, List.getElem?_cons_zero, List.getElem?_cons_succ, dR.eq_20, Mem.cell, Mem.row, wmA, t8, h2, h3, h4, rc115_1, rc115_0]
        exact hq _ m1 v o1 (by simp) (by simp) fun _ => hk
      | true =>
        simp -implicitDefEqProofs (disch := first | assumption | (simp only [wnA]; done) | (simp only [wnA]; omega) | omega | fail) [wkA, retV, stabOk, dC, ev, fillD, pickCells, putAt, bnd, slD, List.getElem?_cons_zero, List.getElem?_cons_succ, dR.eq_20, Mem.cell, Mem.row, wmA, t8, h2, h3, h4, rc115_1, rc115_0]
        exact hq _ m1 _ o1 (by rfl) (by rfl) fun h => by cases h
    · have h2 : (9223372036854775808 : Int) ≤ (v : Int) := by omega
      have hno : neg = false → ∀ k, k < 9223372036854775808 → s.data.toList ≠ digs B k := fun _ k hk e => by
        have := digs_some hB hv hk e
        omega
      cases neg with
      | false =>
        simp -implicitDefEqProofs (disch := first | assumption | (simp only [wnA]; done) | (simp only [wnA]; omega) | omega | fail) [wkA, retV, stabOk, dC, ev, fillD, pickCells, putAt, bnd, slD, List.getElem?_cons_zero, List.getElem?_cons_succ, dR.eq_20, Mem.cell, Mem.row, wmA, t8, h2, w4, w5]
        exact he _ m1 _ 1 o1 (by rfl) (by rfl) (.inl rfl) hno
      | true =>
        by_cases h3 : (9223372036854775808 : Int) < (v : Int)
        · simp -implicitDefEqProofs (disch := first | assumption | (simp only [wnA]; done) | (simp only [wnA]; omega) | omega | fail) [wkA, retV, stabOk, dC, ev, fillD, pickCells, putAt, bnd, slD, List.getElem?_cons_zero, List.getElem?_cons_succ, dR.eq_20, Mem.cell, Mem.row, wmA, t8, h2, h3]
          exact he _ m1 _ 1 o1 (by rfl) (by rfl) (.inl rfl) hno
        · simp -implicitDefEqProofs (disch := first | assumption | (simp only [wnA]; done) | (simp only [wnA]; omega) | omega | fail) [wkA, retV, stabOk, dC, ev, fillD, pickCells, putAt, bnd, slD, List.getElem?_cons_zero, List.getElem?_cons_succ, dR.eq_20, Mem.cell, Mem.row, wmA, t8, h2, h3, rc115_1, rc115_0]
          exact hq _ m1 _ o1 (by rfl) (by rfl) fun h => by cases h
theorem c_iPI {w0 : World} {m : Mem} {B : Nat} {s : ByteArray} {Q : Value → Mem → Prop} (hB : B = 8 ∨ B = 10 ∨ B = 16) (hs : s.size ≤ 140737488355328)
    (he : ∀ m' n c, Old m m' → (c = 1 ∨ c = 2) → (∀ k, k < 9223372036854775808 → s.data.toList ≠ digs B k) → Q (.tuple ⟨[.int .i64 n, .iface 168 (.int .i64 c)]⟩) m')
    (hq : ∀ m' n, Old m m' → (∀ k, k < 9223372036854775808 → s.data.toList = digs B k → n = (k : Int)) → Q (.tuple ⟨[.int .i64 n, .nilIface]⟩) m') :
    AbC Tryz.prog w0 115 [.string s, .int .i64 (B : Int), .int .i64 64] m Q := by
  refine AbC_fn ok115 (by simp) ?_
  simp -implicitDefEqProofs (disch := first | assumption | (simp only [wnA]; done) | (simp only [wnA]; omega) | omega | fail) [rc115, ro115, wkA, retV, stabOk, dC, ev, fillD, pickCells, putAt, bnd, slD, List.getElem?_cons_zero, List.getElem?_cons_succ, dR.eq_20, Mem.cell, Mem.row, wmA]
  have rt : ∀ (ts' : Fr) (m' : Mem) (n c : Int), Old m m' → ts' 6 = .int .i64 n → ts' 7 = .iface 168 (.int .i64 c) → (c = 1 ∨ c = 2) → (∀ k, k < 9223372036854775808 → s.data.toList ≠ digs B k) → bodyA ro115 Q .ret ts' m' := fun ts' m' n c o e6 e7 hc hn => by
    simp -implicitDefEqProofs (disch := first | assumption | (simp only [wnA]; done) | (simp only [wnA]; omega) | omega | fail) [ro115, wkA, retV, stabOk, dC, ev, fillD, pickCells, putAt, bnd, slD, List.getElem?_cons_zero, List.getElem?_cons_succ, dR.eq_20, Mem.cell, Mem.row, wmA, e6, e7]
    exact he m' n c o hc hn
  have rq : ∀ (ts' : Fr) (m' : Mem) (n : Int), Old m m' → ts' 6 = .int .i64 n → ts' 7 = .nilIface → (∀ k, k < 9223372036854775808 → s.data.toList = digs B k → n = (k : Int)) → bodyA ro115 Q .ret ts' m' := fun ts' m' n o e6 e7 hn => by
    simp -implicitDefEqProofs (disch := first | assumption | (simp only [wnA]; done) | (simp only [wnA]; omega) | omega | fail) [ro115, wkA, retV, stabOk, dC, ev, fillD, pickCells, putAt, bnd, slD, List.getElem?_cons_zero, List.getElem?_cons_succ, dR.eq_20, Mem.cell, Mem.row, wmA, e6, e7]
    exact hq m' n o hn
  simp only [ro115] at rt rq
  have hsz : s.data.toList.length = s.size := by simp
  rcases hl : s.data.toList with _ | ⟨c, r⟩
  · have h0 : s.size = 0 := by rw [hl] at hsz; simpa using hsz.symm
    have hem : s.data.isEmpty = true := Array.isEmpty_iff_size_eq_zero.2 h0
    simp -implicitDefEqProofs (disch := first | assumption | (simp only [wnA]; done) | (simp only [wnA]; omega) | omega | fail) [wkA, retV, stabOk, dC, ev, fillD, pickCells, putAt, bnd, slD, List.getElem?_cons_zero, List.getElem?_cons_succ, dR.eq_20, Mem.cell, Mem.row, wmA, hem]
    refine he m 0 2 (Old.refl m) (.inr rfl) fun k _ e => ?_
    have := digs_pos B k
    rw [← e, hl] at this
    simp at this
  · have h0 : s.size ≠ 0 := by rw [hl] at hsz; simp at hsz; omega
    have hem : s.data.isEmpty = false := by
      cases hx : s.data.isEmpty with
      | false => rfl
      | true => exact (h0 (Array.isEmpty_iff_size_eq_zero.1 hx)).elim
    have hlt0 : 0 < s.size := by omega
    have hb1 : (1 : Int) ≤ (s.size : Int) := by omega
    have hb2 : 1 ≤ s.size := hlt0
    have t43 : (43 : UInt8).toNat = 43 := rfl
    have t45 : (45 : UInt8).toNat = 45 := rfl
    have hc0 : s[0]'hlt0 = c := by
      have h1 : s[0]'hlt0 = s.data.toList[0]'(by rw [hl]; simp) := by simp; rfl
      rw [h1]
      simp [hl]
    have nosgn : (c = 43 ∨ c = 45) → ∀ k, k < 9223372036854775808 → s.data.toList ≠ digs B k := fun h k _ e => by
      have := digs_sgn (B := B) (by omega) k c (by rw [← e, hl]; simp)
      rcases h with rfl | rfl
      · exact this.1 rfl
      · exact this.2 rfl
    have hx : (s.extract 1 s.size).size ≤ 140737488355328 := by simp; omega
    by_cases h43 : c = 43
    · subst h43
      simp -implicitDefEqProofs (disch := first | assumption | (simp only [wnA]; done) | (simp only [wnA]; omega) | omega | fail) [wkA, retV, stabOk, dC, ev, fillD, pickCells, putAt, bnd, slD, List.getElem?_cons_zero, List.getElem?_cons_succ, dR.eq_20, Mem.cell, Mem.row, wmA, hem, rc115_6, hc0, hb1, hb2, t43, t45]
      refine w_PItail (neg := false) hB hx (by simp) (by simp [frA_at]) (by simp [frA_at]) (by simp) (fun ts' m' n c o e6 e7 hc _ => rt ts' m' n c o e6 e7 hc (nosgn (.inl rfl))) fun ts' m' n o e6 e7 _ => rq ts' m' n o e6 e7 fun k hk e => (nosgn (.inl rfl) k hk e).elim
    · by_cases h45 : c = 45
      · subst h45
        simp -implicitDefEqProofs (disch := first | assumption | (simp only [wnA]; done) | (simp only [wnA]; omega) | omega | fail) [wkA, retV, stabOk, dC, ev, fillD, pickCells, putAt, bnd, slD, List.getElem?_cons_zero, List.getElem?_cons_succ, dR.eq_20, Mem.cell, Mem.row, wmA, hem, rc115_6, hc0, hb1, hb2, t43, t45]
        refine w_PItail (neg := true) hB hx (by simp) (by simp [frA_at]) (by simp [frA_at]) (by simp) (fun ts' m' n c o e6 e7 hc _ => rt ts' m' n c o e6 e7 hc (nosgn (.inr rfl))) fun ts' m' n o e6 e7 _ => rq ts' m' n o e6 e7 fun k hk e => (nosgn (.inr rfl) k hk e).elim
      · have i43 : ¬ (c.toNat : Int) = 43 := fun h => h43 (UInt8.toNat_inj.1 (by show c.toNat = 43; omega))
        have i45 : ¬ (c.toNat : Int) = 45 := fun h => h45 (UInt8.toNat_inj.1 (by show c.toNat = 45; omega))
        simp -implicitDefEqProofs (disch := first | assumption | (simp only [wnA]; done) | (simp only [wnA]; omega) | omega | fail) [wkA, retV, stabOk, dC, ev, fillD, pickCells, putAt, bnd, slD, List.getElem?_cons_zero, List.getElem?_cons_succ, dR.eq_20, Mem.cell, Mem.row, wmA, hem, rc115_6, hc0, beqF i43, beqF i45]
        refine w_PItail (neg := false) hB hs (by simp [frA_at]) (by simp [frA_at]) (by simp [frA_at]) (by simp) (fun ts' m' n c o e6 e7 hc hn => rt ts' m' n c o e6 e7 hc (hn rfl)) fun ts' m' n o e6 e7 hn => rq ts' m' n o e6 e7 (hn rfl)
theorem c_ParseInt {w0 : World} {m : Mem} {B : Nat} {s : ByteArray} {Q : Value → Mem → Prop} (hE : ErrV w0) (hB : B = 8 ∨ B = 10 ∨ B = 16) (hs : s.size ≤ 140737488355328)
    (he : ∀ m' n p, Old m m' → (∀ k, k < 9223372036854775808 → s.data.toList ≠ digs B k) → Q (.tuple ⟨[.int .i64 n, .iface 170 p]⟩) m')
    (hq : ∀ m' n, Old m m' → (∀ k, k < 9223372036854775808 → s.data.toList = digs B k → n = (k : Int)) → Q (.tuple ⟨[.int .i64 n, .nilIface]⟩) m') :
    AbC Tryz.prog w0 100 [.string s, .int .i64 (B : Int), .int .i64 64] m Q := by
  refine AbC_fn ok100 (by simp) ?_
  simp -implicitDefEqProofs (disch := first | assumption | (simp only [wnA]; done) | (simp only [wnA]; omega) | omega | fail) [rc100, ro100, wkA, retV, stabOk, dC, ev, fillD, pickCells, putAt, bnd, slD, List.getElem?_cons_zero, List.getElem?_cons_succ, dR.eq_20, Mem.cell, Mem.row, wmA]
  refine c_iPI hB hs (fun m1 v c o1 hc hn => ?_) fun m1 v o1 hv => ?_
  · simp -implicitDefEqProofs (disch := first | assumption | (simp only [wnA]; done) | (simp only [wnA]; omega) | omega | fail) [wkA, retV, stabOk, dC, ev, fillD, pickCells, putAt, bnd, slD, List.getElem?_cons_zero, List.getElem?_cons_succ, dR.eq_20, Mem.cell, Mem.row, wmA]
    refine c_toError hE hc hs ?_
    simp -implicitDefEqProofs (disch := first | assumption | (simp only [wnA]; done) | (simp only [wnA]; omega) | omega | fail) [wkA, retV, stabOk, dC, ev, fillD, pickCells, putAt, bnd, slD, List.getElem?_cons_zero, List.getElem?_cons_succ, dR.eq_20, Mem.cell, Mem.row, wmA]
    exact he _ v _ (o1.push _) hn
  · simp -implicitDefEqProofs (disch := first | assumption | (simp only [wnA]; done) | (simp only [wnA]; omega) | omega | fail) [wkA, retV, stabOk, dC, ev, fillD, pickCells, putAt, bnd, slD, List.getElem?_cons_zero, List.getElem?_cons_succ, dR.eq_20, Mem.cell, Mem.row, wmA, rc100_0]
    exact hq m1 v o1 hv
end Go.Proofs.YtiapjjgmmiifmaaGreatDoor.Ab

set_option linter.unusedVariables false
set_option linter.unusedSimpArgs false
namespace Go.Proofs.YtiapjjgmmiifmaaGreatDoor.Ab
open Go
theorem ixB_cases (c : UInt8) : ∀ l : List UInt8, (Lib.indexByte l c = -1 ∧ c ∉ l) ∨ ∃ a r, l = a ++ c :: r ∧ c ∉ a ∧ Lib.indexByte l c = (a.length : Nat)
  | [] => .inl ⟨rfl, by simp⟩
  | b :: l => by
    unfold Lib.indexByte
    by_cases h : b = c
    · subst h
      exact .inr ⟨[], l, rfl, by simp, by simp⟩
    · have hb : (b == c) = false := by simpa using h
      simp only [hb, Bool.false_eq_true, if_false]
      rcases ixB_cases c l with ⟨h1, h2⟩ | ⟨a, r, h1, h2, h3⟩
      · refine .inl ⟨by rw [h1]; rfl, ?_⟩
        simp only [List.mem_cons, not_or]
        exact ⟨fun e => h e.symm, h2⟩
      · refine .inr ⟨b :: a, r, by rw [h1]; rfl, ?_, ?_⟩
        · simp only [List.mem_cons, not_or]
          exact ⟨fun e => h e.symm, h2⟩
        · rw [h3]
          have : ((a.length : Int) == -1) = false := by simp
          rw [this]
          simp
theorem ixB_hit {c : UInt8} {a r : List UInt8} (h : c ∉ a) : Lib.indexByte (a ++ c :: r) c = (a.length : Nat) := by
  rcases ixB_cases c (a ++ c :: r) with ⟨-, h2⟩ | ⟨a', r', h1, h2, h3⟩
  · exact (h2 (by simp)).elim
  · rw [h3]
    congr 1
    have key : ∀ (a a' r r' : List UInt8), c ∉ a → c ∉ a' → a ++ c :: r = a' ++ c :: r' → a'.length = a.length := by
      intro a
      induction a with
      | nil =>
        intro a' r r' h1 h2 h
        cases a' with
        | nil => rfl
        | cons x a' => simp at h; simp [h.1] at h2
      | cons x a ih =>
        intro a' r r' h1 h2 h
        cases a' with
        | nil => simp at h; simp [h.1] at h1
        | cons y a' =>
          simp at h h1 h2
          simp [ih a' r r' h1.2 h2.2 h.2]
    exact key a a' r r' h h2 h1
/-- The pieces, put together again. -/
def joinC (c : UInt8) : List (List UInt8) → List UInt8
  | [] => []
  | [a] => a
  | a :: b :: l => a ++ c :: joinC c (b :: l)
theorem splitK_ne {c : UInt8} {k : Nat} {s : List UInt8} : ∃ a l, Lib.splitK [c] 0 k s = a :: l := by
  cases k with
  | zero => exact ⟨_, _, rfl⟩
  | succ k =>
    unfold Lib.splitK
    split
    · exact ⟨_, _, rfl⟩
    · exact ⟨_, _, rfl⟩
theorem splitK_join {c : UInt8} : ∀ (k : Nat) (s : List UInt8), joinC c (Lib.splitK [c] 0 k s) = s
  | 0, s => rfl
  | k + 1, s => by
    unfold Lib.splitK
    rw [Lib.index_one]
    rcases ixB_cases c s with ⟨h1, h2⟩ | ⟨a, r, h1, h2, h3⟩
    · rw [h1]; rfl
    · rw [h3]
      have : ((a.length : Int) == -1) = false := by simp
      rw [this]
      obtain ⟨x, l, hx⟩ := splitK_ne (c := c) (k := k) (s := s.drop (((a.length : Nat) : Int).toNat + [c].length))
      have ih := splitK_join (c := c) k (s.drop (((a.length : Nat) : Int).toNat + [c].length))
      rw [hx] at ih
      simp only [Bool.false_eq_true, if_false, hx, joinC, ih]
      subst h1
      simp
theorem splitK_hit {c : UInt8} {k : Nat} {a r : List UInt8} (h : c ∉ a) : Lib.splitK [c] 0 (k + 1) (a ++ c :: r) = a :: Lib.splitK [c] 0 k r := by
  show (if Lib.index (a ++ c :: r) [c] == -1 then [a ++ c :: r] else (a ++ c :: r).take ((Lib.index (a ++ c :: r) [c]).toNat + 0) :: Lib.splitK [c] 0 k ((a ++ c :: r).drop ((Lib.index (a ++ c :: r) [c]).toNat + [c].length))) = _
  rw [Lib.index_one, ixB_hit h]
  have : ((a.length : Int) == -1) = false := by simp
  rw [this]
  simp only [Bool.false_eq_true, if_false]
  have h1 : ((a.length : Int)).toNat = a.length := by omega
  rw [h1]
  have h2 : (a ++ c :: r).drop (a.length + [c].length) = r := by
    rw [show a.length + [c].length = (a ++ [c]).length from by simp]
    rw [show a ++ c :: r = (a ++ [c]) ++ r from by simp, List.drop_left]
  rw [h2]
  simp
theorem splitK_zero {c : UInt8} {s : List UInt8} : Lib.splitK [c] 0 0 s = [s] := rfl
/-- What lies ahead of the bytes that are trimmed. -/
theorem trim_cases (c : UInt8) (l : List UInt8) : ∃ k, l = Lib.trimRightB l c ++ List.replicate k c := by
  unfold Lib.trimRightB
  have key : ∀ l : List UInt8, ∃ k, l = List.replicate k c ++ l.dropWhile (· == c) := by
    intro l
    induction l with
    | nil => exact ⟨0, rfl⟩
    | cons b l ih =>
      by_cases h : b = c
      · subst h
        obtain ⟨k, hk⟩ := ih
        refine ⟨k + 1, ?_⟩
        simp only [List.dropWhile_cons, beq_self_eq_true, if_true, List.replicate_succ, List.cons_append]
        rw [← hk]
      · have hb : (b == c) = false := by simpa using h
        exact ⟨0, by simp [List.dropWhile_cons, hb]⟩
  obtain ⟨k, hk⟩ := key l.reverse
  refine ⟨k, ?_⟩
  have := congrArg List.reverse hk
  rw [List.reverse_reverse, List.reverse_append, List.reverse_replicate] at this
  exact this
theorem trim_pad {c x : UInt8} {a : List UInt8} (h : x ≠ c) (k : Nat) : Lib.trimRightB (a ++ x :: List.replicate k c) c = a ++ [x] := by
  unfold Lib.trimRightB
  have e : (a ++ x :: List.replicate k c).reverse = List.replicate k c ++ x :: a.reverse := by simp
  rw [e]
  have key : ∀ k, (List.replicate k c ++ x :: a.reverse).dropWhile (· == c) = x :: a.reverse := by
    intro k
    induction k with
    | zero =>
      have hb : (x == c) = false := by simpa using h
      simp [List.dropWhile_cons, hb]
    | succ k ih => simpa [List.replicate_succ, List.dropWhile_cons] using ih
  rw [key]
  simp
end Go.Proofs.YtiapjjgmmiifmaaGreatDoor.Ab

set_option linter.unusedVariables false
set_option linter.unusedSimpArgs false
namespace Go.Proofs.YtiapjjgmmiifmaaGreatDoor.Ab
open Go Go.RowKit
set_option maxHeartbeats 1000000
set_option maxRecDepth 100000
/-- A library's function that hands back a new slice of plain values. -/
theorem c_callsS {P : Program} {w0 : World} {m : Mem} {f : FuncId} {args cs : List Value} {e : TypeId} {Q : Value → Mem → Prop} (hcall : callOk P f = true) (ha : args.all (plainV 6) = true) (hcs : cs.all (plainV 6) = true) (hl : cs.length ≤ maxLen)
    (h : ∀ (G : Loc) (w : World), St P w0 G m w → Calls P f args.toArray w fun ev w' => ev = .returned (.slice (some ⟨w.heap.size, 0, none⟩) cs.length cs.length) ∧ w' = w.alloc (.cells ⟨cs⟩ e))
    (hq : Q (.slice (some ⟨m.next, 0, none⟩) cs.length 1) (m.push (.own cs e))) : AbC P w0 f args m Q := by
  intro G w args' hs hargs
  have ha' : ∀ u ∈ args, plainV 6 u = true := by simpa [List.all_eq_true] using ha
  have he : args' = args := VRs.plain_eq hargs fun u hu u' hr => VR.plain_eq 6 u u' (ha' u hu) hr
  subst he
  rw [run_callFunc_enter hcall]
  show Calls _ _ _ _ _
  refine (h G w hs).mono ?_
  rintro ev w' ⟨rfl, rfl⟩
  have hcs' : VRs G cs cs := by
    rw [List.all_eq_true] at hcs
    exact VRs.refl_of _ fun u hu => VR.plain 6 u (hcs u hu)
  have hn := own_new hs (e := e) (cs' := cs) (extra := []) (0, 0) (open00 _) hcs'
  refine ⟨_, rfl, _, _, _, hn.1, ?_, by simpa using hn.2, hq⟩
  exact .sl _ _ _ _ ((cs ++ []).length) _ _ _ (by simp) (Nat.le_refl _) hl (by simp)
def bchr (c : UInt8) : ByteArray := ⟨#[c]⟩
theorem c_lIndex1 {w0 : World} {m : Mem} {s : ByteArray} {c : UInt8} {Q : Value → Mem → Prop} (hq : Q (.int .i64 (Lib.indexByte s.data.toList c)) m) : AbC Tryz.prog w0 105 [.string s, .string (bchr c)] m Q :=
  c_calls (by kernel_rfl) rfl rfl (fun G w hst => (Tryz.stringslite_Index_one s c w).mono (by rintro e w' ⟨rfl, rfl⟩; exact ⟨rfl, Below.refl _ _⟩)) hq
theorem c_TrimR {w0 : World} {m : Mem} {s : ByteArray} {c : UInt8} {Q : Value → Mem → Prop} (hc : c.toNat < 128) (hs : s.size ≤ 9223372036854775807) (hq : Q (.string ⟨⟨Lib.trimRightB s.data.toList c⟩⟩) m) : AbC Tryz.prog w0 85 [.string s, .string (bchr c)] m Q :=
  c_calls (by kernel_rfl) rfl rfl (fun G w hst => (Tryz.strings_TrimRight_one s c hc w hs).mono (by rintro e w' ⟨rfl, rfl⟩; exact ⟨rfl, Below.refl _ _⟩)) hq
/-- strings.Cut at one byte. -/
theorem c_lCut {w0 : World} {m : Mem} {s : ByteArray} {c : UInt8} {Q : Value → Mem → Prop} (hs : s.size ≤ 9223372036854775807) (h0 : c ∉ s.data.toList → Q (.tuple ⟨[.string s, .string ⟨#[]⟩, .bool false]⟩) m)
    (h1 : ∀ a r, s.data.toList = a ++ c :: r → c ∉ a → Q (.tuple ⟨[.string ⟨⟨a⟩⟩, .string ⟨⟨r⟩⟩, .bool true]⟩) m) : AbC Tryz.prog w0 95 [.string s, .string (bchr c)] m Q := by
  refine AbC_fn ok95 (by simp) ?_
  simp -implicitDefEqProofs (disch := first | assumption | (simp only [wnA]; done) | (simp only [wnA]; omega) | omega | fail) [rc95, ro95, wkA, retV, stabOk, dC, ev, fillD, pickCells, putAt, bnd, slD, List.getElem?_cons_zero, List.getElem?_cons_succ, dR_sl, Mem.cell, Mem.row, wmA]
  refine c_lIndex1 ?_
  have hsz : (bchr c).size = 1 := rfl
  rcases ixB_cases c s.data.toList with ⟨e1, e2⟩ | ⟨a, r, e1, e2, e3⟩
  · rw [e1]
    simp -implicitDefEqProofs (disch := first | assumption | (simp only [wnA]; done) | (simp only [wnA]; omega) | omega | fail) [wkA, retV, stabOk, dC, ev, fillD, pickCells, putAt, bnd, slD, List.getElem?_cons_zero, List.getElem?_cons_succ, dR_sl, Mem.cell, Mem.row, wmA, rc95_0]
    exact h0 e2
  · rw [e3]
    have hl : s.data.toList.length = s.size := by simp
    have hl2 := congrArg List.length e1
    rw [hl] at hl2
    simp only [List.length_append, List.length_cons] at hl2
    have w1 : IntKind.i64.wrap ((a.length : Int) + 1) = ((a.length + 1 : Nat) : Int) := by rw [w64 (by omega)]; omega
    have x1 : s.extract 0 a.length = ⟨⟨a⟩⟩ := by
      apply ByteArray.ext
      apply Array.toList_inj.1
      rw [Lib.extract_from_zero, e1]
      simp
    have x2 : s.extract (a.length + 1) s.size = ⟨⟨r⟩⟩ := by
      rw [Lib.extract_eq, e1]
      have h1 : (a ++ c :: r).drop (a.length + 1) = r := by
        rw [show a.length + 1 = (a ++ [c]).length from by simp, show a ++ c :: r = (a ++ [c]) ++ r from by simp, List.drop_left]
      rw [h1, List.take_of_length_le (by omega)]
    have f1 : (a.length : Int) ≤ (s.size : Int) := by omega
    have f2 : a.length ≤ s.size := by omega
    have f3 : (a.length : Int) + 1 ≤ (s.size : Int) := by omega
    have f4 : a.length + 1 ≤ s.size := by omega
    have f5 : (0 : Int) ≤ (a.length : Int) + 1 := by omega
    simp -implicitDefEqProofs (disch := first | assumption | (simp only [wnA]; done) | (simp only [wnA]; omega) | omega | fail) [wkA, retV, stabOk, dC, ev, fillD, pickCells, putAt, bnd, slD, List.getElem?_cons_zero, List.getElem?_cons_succ, dR_sl, Mem.cell, Mem.row, wmA, w1, hsz, f1, f2, f3, f4, f5, x1, x2]
    exact h1 a r e1 e2
theorem c_Cut {w0 : World} {m : Mem} {s : ByteArray} {c : UInt8} {Q : Value → Mem → Prop} (hs : s.size ≤ 9223372036854775807) (h0 : c ∉ s.data.toList → Q (.tuple ⟨[.string s, .string ⟨#[]⟩, .bool false]⟩) m)
    (h1 : ∀ a r, s.data.toList = a ++ c :: r → c ∉ a → Q (.tuple ⟨[.string ⟨⟨a⟩⟩, .string ⟨⟨r⟩⟩, .bool true]⟩) m) : AbC Tryz.prog w0 84 [.string s, .string (bchr c)] m Q := by
  refine AbC_fn ok84 (by simp) ?_
  simp -implicitDefEqProofs (disch := first | assumption | (simp only [wnA]; done) | (simp only [wnA]; omega) | omega | fail) [rc84, ro84, wkA, retV, stabOk, dC, ev, fillD, pickCells, putAt, bnd, slD, List.getElem?_cons_zero, List.getElem?_cons_succ, dR_sl, Mem.cell, Mem.row, wmA]
  refine c_lCut hs (fun h => ?_) fun a r e h => ?_
  · simp -implicitDefEqProofs (disch := first | assumption | (simp only [wnA]; done) | (simp only [wnA]; omega) | omega | fail) [wkA, retV, stabOk, dC, ev, fillD, pickCells, putAt, bnd, slD, List.getElem?_cons_zero, List.getElem?_cons_succ, dR_sl, Mem.cell, Mem.row, wmA]
    exact h0 h
  · simp -implicitDefEqProofs (disch := first | assumption | (simp only [wnA]; done) | (simp only [wnA]; omega) | omega | fail) [wkA, retV, stabOk, dC, ev, fillD, pickCells, putAt, bnd, slD, List.getElem?_cons_zero, List.getElem?_cons_succ, dR_sl, Mem.cell, Mem.row, wmA]
    exact h1 a r e h
/-- The words of a text that is split at a byte. -/
def words (c : UInt8) (l : List UInt8) : List (List UInt8) := Lib.splitK [c] 0 (l.count c) l
theorem splitB_words (c : UInt8) (s : ByteArray) : Lib.splitB (bchr c) 0 (Lib.countB s (bchr c)) s = (words c s.data.toList).map fun l => ⟨⟨l⟩⟩ := by
  have h := Lib.splitB_data (bchr c) 0 (Lib.countB s (bchr c)) s
  have hc : Lib.countB s (bchr c) = s.data.toList.count c := Lib.count_one c _
  have h2 := congrArg (List.map fun l : List UInt8 => (⟨⟨l⟩⟩ : ByteArray)) h
  rw [List.map_map] at h2
  have h3 : ((fun l : List UInt8 => (⟨⟨l⟩⟩ : ByteArray)) ∘ fun x : ByteArray => x.data.toList) = id := by funext x; rfl
  rw [h3, List.map_id] at h2
  rw [h2, hc]
  rfl
theorem c_genSplit {w0 : World} {m : Mem} {s : ByteArray} {c : UInt8} {Q : Value → Mem → Prop} (hs : s.size < 4294967281)
    (hq : Q (.slice (some ⟨m.next, 0, none⟩) (words c s.data.toList).length 1) (m.push (.own ((words c s.data.toList).map fun l => .string ⟨⟨l⟩⟩) 9))) : AbC Tryz.prog w0 76 [.string s, .string (bchr c), .int .i64 0, .int .i64 (-1)] m Q := by
  have hcnt : Lib.countB s (bchr c) = s.data.toList.count c := Lib.count_one c _
  have hle : Lib.countB s (bchr c) ≤ s.size := by
    rw [hcnt]
    have := List.count_le_length (a := c) (l := s.data.toList)
    simpa using this
  have hlen := Lib.splitB_all (bchr c) (Nat.le_refl 1) 0 _ s rfl
  have hw := splitB_words c s
  have hcl : ((words c s.data.toList).map fun l => Value.string ⟨⟨l⟩⟩).length = Lib.countB s (bchr c) + 1 := by
    rw [← hlen, hw]; simp
  refine c_callsS (cs := (words c s.data.toList).map fun l => .string ⟨⟨l⟩⟩) (e := 9) (by kernel_rfl) rfl (by rw [List.all_eq_true]; intro u hu; obtain ⟨l, -, rfl⟩ := List.mem_map.1 hu; rfl) (by rw [hcl]; unfold maxLen; omega) (fun G w hst => ?_) (by simpa using hq)
  have h := Any.strings_genSplit_core Tryz.lays221 (by kernel_rfl) s (bchr c) 0 (-1) (Lib.countB s (bchr c) + 1) w hs (Nat.le_refl 1) (Nat.zero_le _)
    (fun x cc _ => by
      have := Tryz.strings_Index_one x c (w.alloc (.cells cc (Tryz.lays221_ren.t 9)))
      rw [← Lib.index_one] at this
      exact this)
    (by
      have := Tryz.strings_Count_one s c w
      rw [show (Lib.countByte s.data.toList c : Nat) = Lib.countB s (bchr c) from hcnt.symm] at this
      exact this) (by decide) (by decide) (by rw [if_pos (by decide)]; omega)
  refine h.mono ?_
  rintro e w' ⟨rfl, rfl⟩
  rw [Nat.add_sub_cancel, hlen, hcl]
  refine ⟨rfl, ?_⟩
  have e2 : Lib.cellsOf (Lib.splitB (bchr c) 0 (Lib.countB s (bchr c)) s) (Lib.countB s (bchr c) + 1) = ((Lib.splitB (bchr c) 0 (Lib.countB s (bchr c)) s).map Value.string).toArray := by rw [← hlen]; exact Lib.cellsOf_full _
  rw [e2, hw, List.map_map]
  rfl
theorem c_Split {w0 : World} {m : Mem} {s : ByteArray} {c : UInt8} {Q : Value → Mem → Prop} (hs : s.size < 4294967281)
    (hq : Q (.slice (some ⟨m.next, 0, none⟩) (words c s.data.toList).length 1) (m.push (.own ((words c s.data.toList).map fun l => .string ⟨⟨l⟩⟩) 9))) : AbC Tryz.prog w0 62 [.string s, .string (bchr c)] m Q := by
  refine AbC_fn ok62 (by simp) ?_
  simp -implicitDefEqProofs (disch := first | assumption | (simp only [wnA]; done) | (simp only [wnA]; omega) | omega | fail) [rc62, ro62, wkA, retV, stabOk, dC, ev, fillD, pickCells, putAt, bnd, slD, List.getElem?_cons_zero, List.getElem?_cons_succ, dR_sl, Mem.cell, Mem.row, wmA]
  refine c_genSplit hs ?_
  simp -implicitDefEqProofs (disch := first | assumption | (simp only [wnA]; done) | (simp only [wnA]; omega) | omega | fail) [wkA, retV, stabOk, dC, ev, fillD, pickCells, putAt, bnd, slD, List.getElem?_cons_zero, List.getElem?_cons_succ, dR_sl, Mem.cell, Mem.row, wmA]
  exact hq
end Go.Proofs.YtiapjjgmmiifmaaGreatDoor.Ab

set_option linter.unusedVariables false
set_option linter.unusedSimpArgs false
namespace Go.Proofs.YtiapjjgmmiifmaaGreatDoor.Ab
open Go Go.RowKit
set_option maxHeartbeats 1000000
set_option maxRecDepth 100000
theorem c_num {w0 : World} {m : Mem} {B : Nat} {most : Int} {s : ByteArray} {Q : Value → Mem → Prop} (hp : Part L0 m) (ht : Ten w0) (hE : ErrV w0) (hB : B = 8 ∨ B = 10) (hm : 0 ≤ most ∧ most < 9223372036854775808) (hs : s.size ≤ 140737488355328)
    (h0 : ∀ m' v, Old m m' → (∀ k : Nat, (k : Int) ≤ most → s.data.toList ≠ digs B k) → Q (.tuple ⟨[.int .i64 v, .bool false]⟩) m')
    (h1 : ∀ m' (k : Nat), Old m m' → (k : Int) ≤ most → s.data.toList = digs B k → Q (.tuple ⟨[.int .i64 (k : Nat), .bool true]⟩) m') :
    AbC Tryz.prog w0 86 [.string s, .int .i64 (B : Int), .int .i64 most] m Q := by
  refine AbC_fn ok86 (by simp) ?_
  simp -implicitDefEqProofs (disch := first | assumption | (simp only [wnA]; done) | (simp only [wnA]; omega) | omega | fail) [rc86, ro86, wkA, retV, stabOk, dC, ev, fillD, pickCells, putAt, bnd, slD, List.getElem?_cons_zero, List.getElem?_cons_succ, dR.eq_20, Mem.cell, Mem.row, wmA]
  refine c_ParseInt hE (by omega) hs (fun m1 v p o1 hn => ?_) fun m1 v o1 hv => ?_
  · simp -implicitDefEqProofs (disch := first | assumption | (simp only [wnA]; done) | (simp only [wnA]; omega) | omega | fail) [wkA, retV, stabOk, dC, ev, fillD, pickCells, putAt, bnd, slD, List.getElem?_cons_zero, List.getElem?_cons_succ, dR.eq_20, Mem.cell, Mem.row, wmA]
    exact h0 _ _ o1 fun k hk => hn k (by omega)
  · have bad : (v < 0 ∨ most < v) → ∀ k : Nat, (k : Int) ≤ most → s.data.toList ≠ digs B k := fun hb k hk e => by
      have := hv k (by omega) e
      omega
    by_cases b0 : 0 ≤ v
    · by_cases b1 : v ≤ most
      · simp -implicitDefEqProofs (disch := first | assumption | (simp only [wnA]; done) | (simp only [wnA]; omega) | omega | fail) [wkA, retV, stabOk, dC, ev, fillD, pickCells, putAt, bnd, slD, List.getElem?_cons_zero, List.getElem?_cons_succ, dR.eq_20, Mem.cell, Mem.row, wmA, b0, b1]
        refine c_FormatInt (B := B) (Old.part hp o1) ht (by omega) (by omega) fun m2 o2 => ?_
        obtain ⟨k, rfl⟩ := Int.eq_ofNat_of_zero_le b0
        rw [numS_ofNat]
        by_cases he : s.data.toList = digs B k
        · have e2 : s = ⟨⟨digs B k⟩⟩ := by
            apply ByteArray.ext
            apply Array.toList_inj.1
            rw [he]
          simp -implicitDefEqProofs (disch := first | assumption | (simp only [wnA]; done) | (simp only [wnA]; omega) | omega | fail) [wkA, retV, stabOk, dC, ev, fillD, pickCells, putAt, bnd, slD, List.getElem?_cons_zero, List.getElem?_cons_succ, dR.eq_20, Mem.cell, Mem.row, wmA, e2]
          exact h1 _ k (o1.trans o2) b1 he
        · have e2 : (digs B k == s.data.toList) = false := by simpa using fun e => he e.symm
          simp -implicitDefEqProofs (disch := first | assumption | (simp only [wnA]; done) | (simp only [wnA]; omega) | omega | fail) [wkA, retV, stabOk, dC, ev, fillD, pickCells, putAt, bnd, slD, List.getElem?_cons_zero, List.getElem?_cons_succ, dR.eq_20, Mem.cell, Mem.row, wmA, e2]
          refine h0 _ _ (o1.trans o2) fun k' hk' e => ?_
          have := hv k' (by omega) e
          have : k = k' := by omega
          subst this
          exact he e
      · simp -implicitDefEqProofs (disch := first | assumption | (simp only [wnA]; done) | (simp only [wnA]; omega) | omega | fail) [wkA, retV, stabOk, dC, ev, fillD, pickCells, putAt, bnd, slD, List.getElem?_cons_zero, List.getElem?_cons_succ, dR.eq_20, Mem.cell, Mem.row, wmA, b0, b1]
        exact h0 _ _ o1 (bad (.inr (by omega)))
    · simp -implicitDefEqProofs (disch := first | assumption | (simp only [wnA]; done) | (simp only [wnA]; omega) | omega | fail) [wkA, retV, stabOk, dC, ev, fillD, pickCells, putAt, bnd, slD, List.getElem?_cons_zero, List.getElem?_cons_succ, dR.eq_20, Mem.cell, Mem.row, wmA, b0]
      exact h0 _ _ o1 (bad (.inl (by omega)))
theorem c_num' {w0 : World} {m : Mem} {B : Nat} {most : Int} {s : ByteArray} {Q : Value → Mem → Prop} (hp : Part L0 m) (ht : Ten w0) (hE : ErrV w0) (hB : B = 8 ∨ B = 10) (hm : 0 ≤ most ∧ most < 9223372036854775808) (hs : s.size ≤ 140737488355328)
    (hq : ∀ m' v b, Old m m' → (b = true → ∃ k : Nat, v = (k : Int) ∧ (k : Int) ≤ most ∧ s.data.toList = digs B k) → (b = false → ∀ k : Nat, (k : Int) ≤ most → s.data.toList ≠ digs B k) → Q (.tuple ⟨[.int .i64 v, .bool b]⟩) m') :
    AbC Tryz.prog w0 86 [.string s, .int .i64 (B : Int), .int .i64 most] m Q :=
  c_num hp ht hE hB hm hs (fun m' v o h => hq m' v false o (fun e => by cases e) fun _ => h) fun m' k o h1 h2 => hq m' k true o (fun _ => ⟨k, rfl, h1, h2⟩) fun e => by cases e
theorem SlR.bs {m : Mem} {v : Value} {l : List UInt8} (h : SlR m 1 v (l.map byteV) l.length) : bstr m v = some (.string ⟨⟨l⟩⟩) := by
  obtain ⟨h1, ⟨h0, h2⟩ | ⟨i, o, L, rfl, h2, h3, h4⟩⟩ := h
  · have : l = [] := by simpa using h0
    subst this
    rcases h2 with rfl | rfl <;> rfl
  · simp only [Ab.bstr, Mem.row, h2]
    rw [Nat.mul_one] at h3 h4
    rw [if_pos h3, h4]
    simp only [bytesOf_mapN]
/-- What data hold of a file that may be told. -/
theorem tell_parts {f : Fl} (hf : mayB f = true) {a r : List UInt8} (h : padL (tellL f) = a ++ 0 :: r) (ha : (0 : UInt8) ∉ a) : a = f.nm.data.toList ∧ words 32 (Lib.trimRightB r 0) = [numS 10 f.size, numS 8 f.time, numS 8 f.mode] := by
  have hn : (0 : UInt8) ∉ f.nm.data.toList := nameB_mem (by simp only [mayB, Bool.and_eq_true] at hf; exact hf.1)
  unfold padL tellL at h
  generalize 128 - _ = K at h
  have h' : f.nm.data.toList ++ 0 :: ((numS 10 f.size ++ 32 :: (numS 8 f.time ++ 32 :: numS 8 f.mode)) ++ List.replicate K 0) = a ++ 0 :: r := by
    rw [← h]; simp
  obtain ⟨e1, e2⟩ := split_at hn ha h'
  refine ⟨e1.symm, ?_⟩
  have m1 := numS_mem (b := 10) (by omega) (by omega) f.size
  have m2 := numS_mem (b := 8) (by omega) (by omega) f.time
  have m3 := numS_mem (b := 8) (by omega) (by omega) f.mode
  have m4 := numS_pos (B := 8) (i := f.mode)
  generalize numS 10 f.size = x at *
  generalize numS 8 f.time = y at *
  generalize numS 8 f.mode = z at *
  have hz : ∃ z' c, z = z' ++ [c] ∧ c ≠ 0 := by
    refine ⟨z.dropLast, z.getLast (by intro e; rw [e] at m4; simp at m4), (List.dropLast_concat_getLast _).symm, ?_⟩
    exact (m3 _ (List.getLast_mem _)).1
  obtain ⟨z', c, rfl, hc⟩ := hz
  have ht : Lib.trimRightB r 0 = x ++ 32 :: (y ++ 32 :: (z' ++ [c])) := by
    rw [← e2]
    have := trim_pad (c := 0) (x := c) (a := x ++ 32 :: (y ++ 32 :: z')) hc K
    simp only [List.append_assoc, List.cons_append, List.nil_append] at this ⊢
    exact this
  have nx : (32 : UInt8) ∉ x := fun hh => (m1 _ hh).2 rfl
  have ny : (32 : UInt8) ∉ y := fun hh => (m2 _ hh).2 rfl
  have nz : (32 : UInt8) ∉ z' ++ [c] := fun hh => (m3 _ hh).2 rfl
  rw [ht]
  unfold words
  have hcount : (x ++ 32 :: (y ++ 32 :: (z' ++ [c]))).count 32 = 2 := by
    rw [List.count_append, List.count_cons_self, List.count_append, List.count_cons_self, List.count_eq_zero.2 nx, List.count_eq_zero.2 ny, List.count_eq_zero.2 nz]
  rw [hcount, splitK_hit nx, splitK_hit ny, splitK_zero]
theorem tell_of {ds a r x y z : List UInt8} {n1 n2 n3 : Nat} (hl : ds.length = 128) (h : ds = a ++ 0 :: r) (hw : words 32 (Lib.trimRightB r 0) = [x, y, z]) (hx : x = digs 10 n1) (hy : y = digs 8 n2) (hz : z = digs 8 n3) : ds = padL (tellL ⟨⟨⟨a⟩⟩, n1, n2, n3⟩) := by
  obtain ⟨k, hk⟩ := trim_cases 0 r
  have hj := splitK_join (c := 32) ((Lib.trimRightB r 0).count 32) (Lib.trimRightB r 0)
  unfold words at hw
  rw [hw] at hj
  simp only [joinC] at hj
  have ht : tellL ⟨⟨⟨a⟩⟩, n1, n2, n3⟩ = a ++ 0 :: Lib.trimRightB r 0 := by
    unfold tellL
    rw [numS_ofNat, numS_ofNat, numS_ofNat, ← hx, ← hy, ← hz, hj]
  unfold padL
  rw [ht]
  have hd : ds = (a ++ 0 :: Lib.trimRightB r 0) ++ List.replicate k 0 := by
    rw [h]
    conv => lhs; rw [hk]
    simp
  have hl2 := hl
  rw [hd, List.length_append, List.length_replicate] at hl2
  rw [show 128 - (a ++ 0 :: Lib.trimRightB r 0).length = k from by omega]
  exact hd
theorem tell_zero (f : Fl) : (0 : UInt8) ∈ padL (tellL f) := by
  unfold padL tellL; simp
theorem sx0 {b : Nat} : sidx 1 (.slice (some ⟨b, 0, none⟩) 3 1) (.int .i64 0) = some (.pointer (some ⟨b, 0, none⟩)) := rfl
theorem sx1 {b : Nat} : sidx 1 (.slice (some ⟨b, 0, none⟩) 3 1) (.int .i64 1) = some (.pointer (some ⟨b, 1, none⟩)) := rfl
theorem sx2 {b : Nat} : sidx 1 (.slice (some ⟨b, 0, none⟩) 3 1) (.int .i64 2) = some (.pointer (some ⟨b, 2, none⟩)) := rfl
theorem len3 {α : Type} {l : List α} (h : l.length = 3) : ∃ x y z, l = [x, y, z] := by
  match l, h with
  | [x, y, z], _ => exact ⟨x, y, z, rfl⟩
def zeroF : Value := .agg ⟨[.string ⟨#[]⟩, .int .i64 0, .int .i64 0, .int .i64 0]⟩
theorem c_Read {w0 : World} {m : Mem} {v : Value} {ds : List UInt8} {Q : Value → Mem → Prop} (hp : Part L0 m) (ht : Ten w0) (hE : ErrV w0) (hv : SlR m 1 v (ds.map byteV) ds.length) (hvb : ∀ b, blk v = some b → b < m.next)
    (h0 : ∀ m', Old m m' → (∀ f, mayB f = true → ds ≠ padL (tellL f)) → Q (.tuple ⟨[zeroF, .bool false]⟩) m')
    (h1 : ∀ m' f, Old m m' → mayB f = true → ds = padL (tellL f) → Q (.tuple ⟨[f.v, .bool true]⟩) m') :
    AbC Tryz.prog w0 73 [v] m Q := by
  refine AbC_fn ok73 (by simp) ?_
  have hv1 := hv.keep (m' := m.push (.own [.string ⟨#[]⟩, .int .i64 0, .int .i64 0, .int .i64 0] 102)) fun b hb => by
    have := hvb b hb
    rw [Mem.push_old _ _ this]
  have hbs := hv1.bs
  have o1 : Old m (m.push (.own [.string ⟨#[]⟩, .int .i64 0, .int .i64 0, .int .i64 0] 102)) := (Old.refl m).push _
  simp -implicitDefEqProofs (disch := first | assumption | (simp only [wnA]; done) | (simp only [wnA]; omega) | omega | fail) [rc73, ro73, wkA, retV, stabOk, dC, ev, fillD, pickCells, putAt, bnd, slD, List.getElem?_cons_zero, List.getElem?_cons_succ, dR.eq_20, Mem.cell, Mem.row, wmA, hv1.slen]
  by_cases hl : ds.length = 128
  · have hl' : (ds.length : Int) = 128 := by omega
    simp -implicitDefEqProofs (disch := first | assumption | (simp only [wnA]; done) | (simp only [wnA]; omega) | omega | fail) [wkA, retV, stabOk, dC, ev, fillD, pickCells, putAt, bnd, slD, List.getElem?_cons_zero, List.getElem?_cons_succ, dR.eq_20, Mem.cell, Mem.row, wmA, hl, rc73_2, hbs]
    have no : ∀ m', Old m m' → (∀ f, mayB f = true → ds ≠ padL (tellL f)) → ∀ ts' : Fr, ts' 2 = .pointer (some ⟨m.next, 0, none⟩) → m'.get m.next = .own [.string ⟨#[]⟩, .int .i64 0, .int .i64 0, .int .i64 0] 102 → m.next < m'.next → ts' 3 = .bool false → bodyA ro73 Q .ret ts' m' := fun m' o h ts' e2 eg en e3 => by
      simp -implicitDefEqProofs (disch := first | assumption | (simp only [wnA]; done) | (simp only [wnA]; omega) | omega | fail) [ro73, wkA, retV, stabOk, dC, ev, fillD, pickCells, putAt, bnd, slD, List.getElem?_cons_zero, List.getElem?_cons_succ, dR.eq_20, Mem.cell, Mem.row, wmA, e2, e3, eg]
      exact h0 m' o h
    refine c_Cut (s := ⟨⟨ds⟩⟩) (c := 0) (by show ds.length ≤ _; omega) (fun hz => ?_) fun a r hds ha => ?_
    · have nof : ∀ f, mayB f = true → ds ≠ padL (tellL f) := fun f _ e => by
        apply hz
        show 0 ∈ ds
        rw [e]; exact tell_zero f
      simp -implicitDefEqProofs (disch := first | assumption | (simp only [wnA]; done) | (simp only [wnA]; omega) | omega | fail) [wkA, retV, stabOk, dC, ev, fillD, pickCells, putAt, bnd, slD, List.getElem?_cons_zero, List.getElem?_cons_succ, dR.eq_20, Mem.cell, Mem.row, wmA]
      refine c_TrimR (s := ⟨#[]⟩) (c := 0) (by decide) (by decide) ?_
      simp -implicitDefEqProofs (disch := first | assumption | (simp only [wnA]; done) | (simp only [wnA]; omega) | omega | fail) [wkA, retV, stabOk, dC, ev, fillD, pickCells, putAt, bnd, slD, List.getElem?_cons_zero, List.getElem?_cons_succ, dR.eq_20, Mem.cell, Mem.row, wmA]
      refine c_Split (s := ⟨⟨Lib.trimRightB (ByteArray.data ⟨#[]⟩).toList 0⟩⟩) (c := 32) (by decide) ?_
      have hw : words 32 (ByteArray.data ⟨⟨Lib.trimRightB (ByteArray.data ⟨#[]⟩).toList 0⟩⟩).toList = [[]] := rfl
      rw [hw]
      simp -implicitDefEqProofs (disch := first | assumption | (simp only [wnA]; done) | (simp only [wnA]; omega) | omega | fail) [wkA, retV, stabOk, dC, ev, fillD, pickCells, putAt, bnd, slD, List.getElem?_cons_zero, List.getElem?_cons_succ, dR.eq_20, Mem.cell, Mem.row, wmA]
      refine SK_st (i := m.next) (o := 0) (by simp [wkA, retV, stabOk, dC, ev, fillD, pickCells, putAt, bnd, slD, List.getElem?_cons_zero, List.getElem?_cons_succ, dR.eq_20]) (e := 102) (by simp -implicitDefEqProofs (disch := first | assumption | (simp only [wnA]; done) | (simp only [wnA]; omega) | omega | fail) [Mem.cell, Mem.row, wmA]; rfl) (by simp) (by simp [wkA, retV, stabOk, dC, ev, fillD, pickCells, putAt, bnd, slD, List.getElem?_cons_zero, List.getElem?_cons_succ, dR.eq_20]) (by simp [wkA, retV, stabOk, dC, ev, fillD, pickCells, putAt, bnd, slD, List.getElem?_cons_zero, List.getElem?_cons_succ, dR.eq_20, oneC]) ?_
      simp -implicitDefEqProofs (disch := first | assumption | (simp only [wnA]; done) | (simp only [wnA]; omega) | omega | fail) [wkA, retV, stabOk, dC, ev, fillD, pickCells, putAt, bnd, slD, List.getElem?_cons_zero, List.getElem?_cons_succ, dR.eq_20, Mem.cell, Mem.row, wmA]
      exact h0 _ ((o1.push _).set (by omega) _) nof
    · have hds' : ds = a ++ 0 :: r := hds
      simp -implicitDefEqProofs (disch := first | assumption | (simp only [wnA]; done) | (simp only [wnA]; omega) | omega | fail) [wkA, retV, stabOk, dC, ev, fillD, pickCells, putAt, bnd, slD, List.getElem?_cons_zero, List.getElem?_cons_succ, dR.eq_20, Mem.cell, Mem.row, wmA]
      refine c_TrimR (s := ⟨⟨r⟩⟩) (c := 0) (by decide) (by show r.length ≤ _; have := congrArg List.length hds'; simp at this; omega) ?_
      simp -implicitDefEqProofs (disch := first | assumption | (simp only [wnA]; done) | (simp only [wnA]; omega) | omega | fail) [wkA, retV, stabOk, dC, ev, fillD, pickCells, putAt, bnd, slD, List.getElem?_cons_zero, List.getElem?_cons_succ, dR.eq_20, Mem.cell, Mem.row, wmA]
      have hlr : (Lib.trimRightB r 0).length ≤ 127 := by
        obtain ⟨k, hk⟩ := trim_cases 0 r
        have h2 := congrArg List.length hk
        have h3 := congrArg List.length hds'
        simp only [List.length_append, List.length_cons, List.length_replicate] at h2 h3
        omega
      refine c_Split (s := ⟨⟨Lib.trimRightB r 0⟩⟩) (c := 32) (by show (Lib.trimRightB r 0).length < _; omega) ?_
      have key : ∀ f, mayB f = true → ds = padL (tellL f) → a = f.nm.data.toList ∧ words 32 (Lib.trimRightB r 0) = [numS 10 f.size, numS 8 f.time, numS 8 f.mode] := fun f hf e => tell_parts hf (e.symm.trans hds') ha
      by_cases h3 : (words 32 (Lib.trimRightB r 0)).length = 3
      · obtain ⟨x, y, z, hw⟩ := len3 h3
        have hj := splitK_join (c := 32) ((Lib.trimRightB r 0).count 32) (Lib.trimRightB r 0)
        have hw2 := hw
        unfold words at hw2
        rw [hw2] at hj
        simp only [joinC] at hj
        rw [← hj] at hlr
        simp only [List.length_append, List.length_cons] at hlr
        rw [hw] at key
        have fin := fun n1 n2 n3 => tell_of (x := x) (y := y) (z := z) (n1 := n1) (n2 := n2) (n3 := n3) hl hds' hw
        have hwb : words 32 (ByteArray.data ⟨⟨Lib.trimRightB r 0⟩⟩).toList = [x, y, z] := hw
        rw [hwb]
        clear hw hw2 hj h3 hwb
        simp -implicitDefEqProofs (disch := first | assumption | (simp only [wnA]; done) | (simp only [wnA]; omega) | omega | fail) [wkA, retV, stabOk, dC, ev, fillD, pickCells, putAt, bnd, slD, List.getElem?_cons_zero, List.getElem?_cons_succ, dR.eq_20, Mem.cell, Mem.row, wmA, sx0, sx1, sx2, rc73_1]
        refine c_num' (B := 10) (most := 8192) (s := ⟨⟨x⟩⟩) (((o1.push _)).part hp) ht hE (by omega) (by omega) (by show x.length ≤ _; omega) fun m2 v1 b1 o2 y1 n1 => ?_
        have g0 : m2.get m.next = .own [.string ⟨#[]⟩, .int .i64 0, .int .i64 0, .int .i64 0] 102 := by rw [o2.2 _ (by simp only [Mem.push_nxt]; omega)]; simp -implicitDefEqProofs (disch := first | assumption | (simp only [wnA]; done) | (simp only [wnA]; omega) | omega | fail) [Mem.cell, Mem.row, wmA]
        have g1 : m2.get (m.next + 1) = .own [.string ⟨⟨x⟩⟩, .string ⟨⟨y⟩⟩, .string ⟨⟨z⟩⟩] 9 := by rw [o2.2 _ (by simp only [Mem.push_nxt]; omega)]; simp -implicitDefEqProofs (disch := first | assumption | (simp only [wnA]; done) | (simp only [wnA]; omega) | omega | fail) [Mem.cell, Mem.row, wmA]
        have l2 : m.next + 2 ≤ m2.next := by have := o2.1; simp only [Mem.push_nxt] at this; omega
        have oo2 : Old m m2 := Old.trans (o1.push _) o2
        clear o2
        simp -implicitDefEqProofs (disch := first | assumption | (simp only [wnA]; done) | (simp only [wnA]; omega) | omega | fail) [wkA, retV, stabOk, dC, ev, fillD, pickCells, putAt, bnd, slD, List.getElem?_cons_zero, List.getElem?_cons_succ, dR.eq_20, Mem.cell, Mem.row, wmA, sx0, sx1, sx2, g1]
        refine c_num' (B := 8) (most := 4294967295) (s := ⟨⟨y⟩⟩) (oo2.part hp) ht hE (by omega) (by omega) (by show y.length ≤ _; omega) fun m3 v2 b2 o3 y2 n2 => ?_
        rw [← o3.2 _ (by omega)] at g0 g1
        have l3 : m.next + 2 ≤ m3.next := by have := o3.1; omega
        have oo3 : Old m m3 := oo2.trans o3
        clear o3
        simp -implicitDefEqProofs (disch := first | assumption | (simp only [wnA]; done) | (simp only [wnA]; omega) | omega | fail) [wkA, retV, stabOk, dC, ev, fillD, pickCells, putAt, bnd, slD, List.getElem?_cons_zero, List.getElem?_cons_succ, dR.eq_20, Mem.cell, Mem.row, wmA, sx0, sx1, sx2, g1]
        refine c_num' (B := 8) (most := 65535) (s := ⟨⟨z⟩⟩) (oo3.part hp) ht hE (by omega) (by omega) (by show z.length ≤ _; omega) fun m4 v3 b3 o4 y3 n3 => ?_
        rw [← o4.2 _ (by omega)] at g0 g1
        have l4 : m.next + 2 ≤ m4.next := by have := o4.1; omega
        have oo4 : Old m m4 := oo3.trans o4
        clear o4
        simp -implicitDefEqProofs (disch := first | assumption | (simp only [wnA]; done) | (simp only [wnA]; omega) | omega | fail) [wkA, retV, stabOk, dC, ev, fillD, pickCells, putAt, bnd, slD, List.getElem?_cons_zero, List.getElem?_cons_succ, dR.eq_20, Mem.cell, Mem.row, wmA, sx0, sx1, sx2, g1]
        refine SK_st (i := m4.next) (o := 0) (by simp [wkA, retV, stabOk, dC, ev, fillD, pickCells, putAt, bnd, slD, List.getElem?_cons_zero, List.getElem?_cons_succ, dR.eq_20]) (e := 102) (by simp -implicitDefEqProofs (disch := first | assumption | (simp only [wnA]; done) | (simp only [wnA]; omega) | omega | fail) [Mem.cell, Mem.row, wmA]; rfl) (by simp) (by simp [wkA, retV, stabOk, dC, ev, fillD, pickCells, putAt, bnd, slD, List.getElem?_cons_zero, List.getElem?_cons_succ, dR.eq_20]) (by simp [wkA, retV, stabOk, dC, ev, fillD, pickCells, putAt, bnd, slD, List.getElem?_cons_zero, List.getElem?_cons_succ, dR.eq_20, oneC]) ?_
        simp -implicitDefEqProofs (disch := first | assumption | (simp only [wnA]; done) | (simp only [wnA]; omega) | omega | fail) [wkA, retV, stabOk, dC, ev, fillD, pickCells, putAt, bnd, slD, List.getElem?_cons_zero, List.getElem?_cons_succ, dR.eq_20, Mem.cell, Mem.row, wmA]
        have nof1 : b1 = false → ∀ f, mayB f = true → ds ≠ padL (tellL f) := fun hb f hf e => by
          have hk := (key f hf e).2
          simp only [mayB, Bool.and_eq_true, decide_eq_true_eq] at hf
          obtain ⟨k, hk2⟩ := Int.eq_ofNat_of_zero_le hf.2.1
          rw [hk2, numS_ofNat] at hk
          exact n1 hb k (by omega) (by simpa using congrArg List.head? hk)
        have nof2 : b2 = false → ∀ f, mayB f = true → ds ≠ padL (tellL f) := fun hb f hf e => by
          have hk := (key f hf e).2
          simp only [mayB, Bool.and_eq_true, decide_eq_true_eq] at hf
          obtain ⟨k, hk2⟩ := Int.eq_ofNat_of_zero_le hf.2.2.2.1
          rw [hk2, numS_ofNat] at hk
          simp only [List.cons.injEq] at hk
          exact n2 hb k (by omega) hk.2.1
        have nof3 : b3 = false → ∀ f, mayB f = true → ds ≠ padL (tellL f) := fun hb f hf e => by
          have hk := (key f hf e).2
          simp only [mayB, Bool.and_eq_true, decide_eq_true_eq] at hf
          obtain ⟨k, hk2⟩ := Int.eq_ofNat_of_zero_le hf.2.2.2.2.2.1
          rw [hk2, numS_ofNat] at hk
          simp only [List.cons.injEq] at hk
          exact n3 hb k (by omega) hk.2.2.1
        cases hb1 : b1 with
        | false =>
          simp -implicitDefEqProofs (disch := first | assumption | (simp only [wnA]; done) | (simp only [wnA]; omega) | omega | fail) [wkA, retV, stabOk, dC, ev, fillD, pickCells, putAt, bnd, slD, List.getElem?_cons_zero, List.getElem?_cons_succ, dR.eq_20, Mem.cell, Mem.row, wmA]
          refine SK_st (i := m.next) (o := 0) (by simp [wkA, retV, stabOk, dC, ev, fillD, pickCells, putAt, bnd, slD, List.getElem?_cons_zero, List.getElem?_cons_succ, dR.eq_20]) (e := 102) (by simp -implicitDefEqProofs (disch := first | assumption | (simp only [wnA]; done) | (simp only [wnA]; omega) | omega | fail) [Mem.cell, Mem.row, wmA, g0]; rfl) (by simp) (by simp [wkA, retV, stabOk, dC, ev, fillD, pickCells, putAt, bnd, slD, List.getElem?_cons_zero, List.getElem?_cons_succ, dR.eq_20]) (by simp [wkA, retV, stabOk, dC, ev, fillD, pickCells, putAt, bnd, slD, List.getElem?_cons_zero, List.getElem?_cons_succ, dR.eq_20, oneC]) ?_
          simp -implicitDefEqProofs (disch := first | assumption | (simp only [wnA]; done) | (simp only [wnA]; omega) | omega | fail) [wkA, retV, stabOk, dC, ev, fillD, pickCells, putAt, bnd, slD, List.getElem?_cons_zero, List.getElem?_cons_succ, dR.eq_20, Mem.cell, Mem.row, wmA]
          exact h0 _ (((oo4.push _).set (by omega) _).set (by omega) _) (nof1 hb1)
        | true =>
          cases hb2 : b2 with
          | false =>
            simp -implicitDefEqProofs (disch := first | assumption | (simp only [wnA]; done) | (simp only [wnA]; omega) | omega | fail) [wkA, retV, stabOk, dC, ev, fillD, pickCells, putAt, bnd, slD, List.getElem?_cons_zero, List.getElem?_cons_succ, dR.eq_20, Mem.cell, Mem.row, wmA]
            refine SK_st (i := m.next) (o := 0) (by simp [wkA, retV, stabOk, dC, ev, fillD, pickCells, putAt, bnd, slD, List.getElem?_cons_zero, List.getElem?_cons_succ, dR.eq_20]) (e := 102) (by simp -implicitDefEqProofs (disch := first | assumption | (simp only [wnA]; done) | (simp only [wnA]; omega) | omega | fail) [Mem.cell, Mem.row, wmA, g0]; rfl) (by simp) (by simp [wkA, retV, stabOk, dC, ev, fillD, pickCells, putAt, bnd, slD, List.getElem?_cons_zero, List.getElem?_cons_succ, dR.eq_20]) (by simp [wkA, retV, stabOk, dC, ev, fillD, pickCells, putAt, bnd, slD, List.getElem?_cons_zero, List.getElem?_cons_succ, dR.eq_20, oneC]) ?_
            simp -implicitDefEqProofs (disch := first | assumption | (simp only [wnA]; done) | (simp only [wnA]; omega) | omega | fail) [wkA, retV, stabOk, dC, ev, fillD, pickCells, putAt, bnd, slD, List.getElem?_cons_zero, List.getElem?_cons_succ, dR.eq_20, Mem.cell, Mem.row, wmA]
            exact h0 _ (((oo4.push _).set (by omega) _).set (by omega) _) (nof2 hb2)
          | true =>
            cases hb3 : b3 with
            | false =>
              simp -implicitDefEqProofs (disch := first | assumption | (simp only [wnA]; done) | (simp only [wnA]; omega) | omega | fail) [wkA, retV, stabOk, dC, ev, fillD, pickCells, putAt, bnd, slD, List.getElem?_cons_zero, List.getElem?_cons_succ, dR.eq_20, Mem.cell, Mem.row, wmA]
              refine SK_st (i := m.next) (o := 0) (by simp [wkA, retV, stabOk, dC, ev, fillD, pickCells, putAt, bnd, slD, List.getElem?_cons_zero, List.getElem?_cons_succ, dR.eq_20]) (e := 102) (by simp -implicitDefEqProofs (disch := first | assumption | (simp only [wnA]; done) | (simp only [wnA]; omega) | omega | fail) [Mem.cell, Mem.row, wmA, g0]; rfl) (by simp) (by simp [wkA, retV, stabOk, dC, ev, fillD, pickCells, putAt, bnd, slD, List.getElem?_cons_zero, List.getElem?_cons_succ, dR.eq_20]) (by simp [wkA, retV, stabOk, dC, ev, fillD, pickCells, putAt, bnd, slD, List.getElem?_cons_zero, List.getElem?_cons_succ, dR.eq_20, oneC]) ?_
              simp -implicitDefEqProofs (disch := first | assumption | (simp only [wnA]; done) | (simp only [wnA]; omega) | omega | fail) [wkA, retV, stabOk, dC, ev, fillD, pickCells, putAt, bnd, slD, List.getElem?_cons_zero, List.getElem?_cons_succ, dR.eq_20, Mem.cell, Mem.row, wmA]
              exact h0 _ (((oo4.push _).set (by omega) _).set (by omega) _) (nof3 hb3)
            | true =>
              obtain ⟨k1, rfl, u1, w1⟩ := y1 hb1
              obtain ⟨k2, rfl, u2, w2⟩ := y2 hb2
              obtain ⟨k3, rfl, u3, w3⟩ := y3 hb3
              have w1 : x = digs 10 k1 := w1
              have w2 : y = digs 8 k2 := w2
              have w3 : z = digs 8 k3 := w3
              have hfin := fin k1 k2 k3 w1 w2 w3
              simp -implicitDefEqProofs (disch := first | assumption | (simp only [wnA]; done) | (simp only [wnA]; omega) | omega | fail) [wkA, retV, stabOk, dC, ev, fillD, pickCells, putAt, bnd, slD, List.getElem?_cons_zero, List.getElem?_cons_succ, dR.eq_20, Mem.cell, Mem.row, wmA]
              refine c_May (f := ⟨⟨⟨a⟩⟩, k1, k2, k3⟩) (by show a.length ≤ _; have := congrArg List.length hds'; simp at this; omega) fun m5 o5 => ?_
              have gt : m5.get m4.next = .own [.string ⟨⟨a⟩⟩, .int .i64 k1, .int .i64 k2, .int .i64 k3] 102 := by rw [o5.2 _ (by simp only [Mem.push_nxt, Mem.set_nxt]; omega)]; simp -implicitDefEqProofs (disch := first | assumption | (simp only [wnA]; done) | (simp only [wnA]; omega) | omega | fail) [Mem.cell, Mem.row, wmA]
              have g0 : m5.get m.next = .own [.string ⟨#[]⟩, .int .i64 0, .int .i64 0, .int .i64 0] 102 := by rw [o5.2 _ (by simp only [Mem.push_nxt, Mem.set_nxt]; omega)]; simp -implicitDefEqProofs (disch := first | assumption | (simp only [wnA]; done) | (simp only [wnA]; omega) | omega | fail) [Mem.cell, Mem.row, wmA, g0]
              have oo5 : Old m m5 := Old.trans ((oo4.push _).set (by omega) _) o5
              have l5 : m4.next + 1 ≤ m5.next := by have := o5.1; simp only [Mem.push_nxt, Mem.set_nxt] at this; omega
              cases hm : mayB ⟨⟨⟨a⟩⟩, k1, k2, k3⟩ with
              | false =>
                simp -implicitDefEqProofs (disch := first | assumption | (simp only [wnA]; done) | (simp only [wnA]; omega) | omega | fail) [wkA, retV, stabOk, dC, ev, fillD, pickCells, putAt, bnd, slD, List.getElem?_cons_zero, List.getElem?_cons_succ, dR.eq_20, Mem.cell, Mem.row, wmA]
                refine SK_st (i := m.next) (o := 0) (by simp [wkA, retV, stabOk, dC, ev, fillD, pickCells, putAt, bnd, slD, List.getElem?_cons_zero, List.getElem?_cons_succ, dR.eq_20]) (e := 102) (by simp -implicitDefEqProofs (disch := first | assumption | (simp only [wnA]; done) | (simp only [wnA]; omega) | omega | fail) [Mem.cell, Mem.row, wmA, g0]; rfl) (by simp) (by simp [wkA, retV, stabOk, dC, ev, fillD, pickCells, putAt, bnd, slD, List.getElem?_cons_zero, List.getElem?_cons_succ, dR.eq_20]) (by simp [wkA, retV, stabOk, dC, ev, fillD, pickCells, putAt, bnd, slD, List.getElem?_cons_zero, List.getElem?_cons_succ, dR.eq_20, oneC]) ?_
                simp -implicitDefEqProofs (disch := first | assumption | (simp only [wnA]; done) | (simp only [wnA]; omega) | omega | fail) [wkA, retV, stabOk, dC, ev, fillD, pickCells, putAt, bnd, slD, List.getElem?_cons_zero, List.getElem?_cons_succ, dR.eq_20, Mem.cell, Mem.row, wmA]
                refine h0 _ (oo5.set (by omega) _) fun f hf e => ?_
                obtain ⟨q1, q2⟩ := key f hf e
                have hf' := hf
                simp only [mayB, Bool.and_eq_true, decide_eq_true_eq] at hf'
                simp only [List.cons.injEq] at q2
                rw [w1, ← numS_ofNat, w2, ← numS_ofNat, w3, ← numS_ofNat] at q2
                have i1 := numS_inj (b := 10) (by omega) (by omega) (by omega) (by omega) q2.1
                have i2 := numS_inj (b := 8) (by omega) (by omega) (by omega) (by omega) q2.2.1
                have i3 := numS_inj (b := 8) (by omega) (by omega) (by omega) (by omega) q2.2.2.1
                have i0 : (⟨⟨a⟩⟩ : ByteArray) = f.nm := by
                  apply ByteArray.ext
                  apply Array.toList_inj.1
                  exact q1
                rw [i0, i1, i2, i3] at hm
                have : mayB f = false := hm
                rw [hf] at this
                cases this
              | true =>
                simp -implicitDefEqProofs (disch := first | assumption | (simp only [wnA]; done) | (simp only [wnA]; omega) | omega | fail) [wkA, retV, stabOk, dC, ev, fillD, pickCells, putAt, bnd, slD, List.getElem?_cons_zero, List.getElem?_cons_succ, dR.eq_20, Mem.cell, Mem.row, wmA, rc73_0, gt]
                refine SK_st (i := m.next) (o := 0) (by simp [wkA, retV, stabOk, dC, ev, fillD, pickCells, putAt, bnd, slD, List.getElem?_cons_zero, List.getElem?_cons_succ, dR.eq_20]) (e := 102) (by simp -implicitDefEqProofs (disch := first | assumption | (simp only [wnA]; done) | (simp only [wnA]; omega) | omega | fail) [Mem.cell, Mem.row, wmA, g0]; rfl) (by simp) (by simp [wkA, retV, stabOk, dC, ev, fillD, pickCells, putAt, bnd, slD, List.getElem?_cons_zero, List.getElem?_cons_succ, dR.eq_20]) (by simp [wkA, retV, stabOk, dC, ev, fillD, pickCells, putAt, bnd, slD, List.getElem?_cons_zero, List.getElem?_cons_succ, dR.eq_20, oneC]) ?_
                simp -implicitDefEqProofs (disch := first | assumption | (simp only [wnA]; done) | (simp only [wnA]; omega) | omega | fail) [wkA, retV, stabOk, dC, ev, fillD, pickCells, putAt, bnd, slD, List.getElem?_cons_zero, List.getElem?_cons_succ, dR.eq_20, Mem.cell, Mem.row, wmA]
                exact h1 _ ⟨⟨⟨a⟩⟩, k1, k2, k3⟩ (oo5.set (by omega) _) hm hfin
      · have h3' : ¬ ((words 32 (Lib.trimRightB r 0)).length : Int) = 3 := by omega
        have nof : ∀ f, mayB f = true → ds ≠ padL (tellL f) := fun f hf e => by
          rw [(key f hf e).2] at h3
          exact h3 rfl
        simp -implicitDefEqProofs (disch := first | assumption | (simp only [wnA]; done) | (simp only [wnA]; omega) | omega | fail) [wkA, retV, stabOk, dC, ev, fillD, pickCells, putAt, bnd, slD, List.getElem?_cons_zero, List.getElem?_cons_succ, dR.eq_20, Mem.cell, Mem.row, wmA, bneT h3']
        refine SK_st (i := m.next) (o := 0) (by simp [wkA, retV, stabOk, dC, ev, fillD, pickCells, putAt, bnd, slD, List.getElem?_cons_zero, List.getElem?_cons_succ, dR.eq_20]) (e := 102) (by simp -implicitDefEqProofs (disch := first | assumption | (simp only [wnA]; done) | (simp only [wnA]; omega) | omega | fail) [Mem.cell, Mem.row, wmA]; rfl) (by simp) (by simp [wkA, retV, stabOk, dC, ev, fillD, pickCells, putAt, bnd, slD, List.getElem?_cons_zero, List.getElem?_cons_succ, dR.eq_20]) (by simp [wkA, retV, stabOk, dC, ev, fillD, pickCells, putAt, bnd, slD, List.getElem?_cons_zero, List.getElem?_cons_succ, dR.eq_20, oneC]) ?_
        simp -implicitDefEqProofs (disch := first | assumption | (simp only [wnA]; done) | (simp only [wnA]; omega) | omega | fail) [wkA, retV, stabOk, dC, ev, fillD, pickCells, putAt, bnd, slD, List.getElem?_cons_zero, List.getElem?_cons_succ, dR.eq_20, Mem.cell, Mem.row, wmA]
        exact h0 _ ((o1.push _).set (by omega) _) nof
  · have hl' : ¬ (ds.length : Int) = 128 := by omega
    simp -implicitDefEqProofs (disch := first | assumption | (simp only [wnA]; done) | (simp only [wnA]; omega) | omega | fail) [wkA, retV, stabOk, dC, ev, fillD, pickCells, putAt, bnd, slD, List.getElem?_cons_zero, List.getElem?_cons_succ, dR.eq_20, Mem.cell, Mem.row, wmA, bneT hl']
    refine SK_st (i := m.next) (o := 0) (by simp [wkA, retV, stabOk, dC, ev, fillD, pickCells, putAt, bnd, slD, List.getElem?_cons_zero, List.getElem?_cons_succ, dR.eq_20]) (e := 102) (by simp -implicitDefEqProofs (disch := first | assumption | (simp only [wnA]; done) | (simp only [wnA]; omega) | omega | fail) [Mem.cell, Mem.row, wmA]; rfl) (by simp) (by simp [wkA, retV, stabOk, dC, ev, fillD, pickCells, putAt, bnd, slD, List.getElem?_cons_zero, List.getElem?_cons_succ, dR.eq_20]) (by simp [wkA, retV, stabOk, dC, ev, fillD, pickCells, putAt, bnd, slD, List.getElem?_cons_zero, List.getElem?_cons_succ, dR.eq_20, oneC]) ?_
    simp -implicitDefEqProofs (disch := first | assumption | (simp only [wnA]; done) | (simp only [wnA]; omega) | omega | fail) [wkA, retV, stabOk, dC, ev, fillD, pickCells, putAt, bnd, slD, List.getElem?_cons_zero, List.getElem?_cons_succ, dR.eq_20, Mem.cell, Mem.row, wmA]
    refine h0 _ (o1.set (by omega) _) fun f hf e => hl ?_
    rw [e]; exact pad_len hf
end Go.Proofs.YtiapjjgmmiifmaaGreatDoor.Ab

set_option linter.unusedVariables false
set_option linter.unusedSimpArgs false
namespace Go.Proofs.YtiapjjgmmiifmaaGreatDoor.Ab
open Go Go.RowKit
set_option maxHeartbeats 1000000
set_option maxRecDepth 100000
def endsB (l : List UInt8) : Bool := l.length == 128 && l.head? == some 0
theorem ends_at {m : Mem} {v : Value} {l : List UInt8} (hv : SlR m 1 v (l.map byteV) l.length) (hl : l.length = 128) : ∃ i o L c, v = .slice (some ⟨i, o, none⟩) 128 1 ∧ sidx 1 (.slice (some ⟨i, o, none⟩) 128 1) (.int .i64 0) = some (.pointer (some ⟨i, o, none⟩)) ∧ (m.get i).cells? = some L ∧ (∃ h : o < L.length, L[o] = byteV c) ∧ L[o]? = some (byteV c) ∧ endsB l = ((c.toNat : Int) == 0) := by
  obtain ⟨i, o, L, e, h2, h3, -, h5⟩ := hv.at (j := 0) (by omega)
  have h6 := h5 0 (by omega)
  simp only [Nat.mul_one, Nat.add_zero, Nat.zero_mul, List.getElem?_map] at h6
  obtain ⟨c, r, rfl⟩ : ∃ c r, l = c :: r := by
    cases l with
    | nil => simp at hl
    | cons c r => exact ⟨c, r, rfl⟩
  simp only [List.getElem?_cons_zero, Option.map_some] at h6
  have hs0 : sidx 1 (.slice (some ⟨i, o, none⟩) (c :: r).length 1) (.int .i64 0) = some (.pointer (some ⟨i, o, none⟩)) := by
    have := sidx_at (b := i) (o := o) (n := (c :: r).length) (c := 1) (j := 0) (sz := 1) (k := .i64) (by simp)
    simpa using this
  rw [hl] at hs0 e
  have hc8 : c.toNat < 256 := c.toNat_lt
  have e0 : endsB (c :: r) = ((c.toNat : Int) == 0) := by
    simp only [endsB, hl, List.head?_cons]
    simp
    rw [Bool.eq_iff_iff, beq_iff_eq, beq_iff_eq]
    constructor
    · intro h; rw [h]; rfl
    · intro h; exact UInt8.toNat_inj.1 (by show c.toNat = 0; omega)
  exact ⟨i, o, L, c, e, hs0, h2, List.getElem?_eq_some_iff.1 h6, h6, e0⟩
theorem c_Ends {w0 : World} {m : Mem} {v : Value} {l : List UInt8} {Q : Value → Mem → Prop} (hv : SlR m 1 v (l.map byteV) l.length) (hq : Q (.bool (endsB l)) m) : AbC Tryz.prog w0 74 [v] m Q := by
  refine AbC_fn ok74 (by simp) ?_
  have hq' := fun b (h : endsB l = b) => h ▸ hq
  simp -implicitDefEqProofs (disch := first | assumption | (simp only [wnA]; done) | (simp only [wnA]; omega) | omega | fail) [rc74, ro74, wkA, retV, stabOk, dC, ev, fillD, pickCells, putAt, bnd, slD, List.getElem?_cons_zero, List.getElem?_cons_succ, dR.eq_20, Mem.cell, Mem.row, wmA, hv.slen]
  by_cases hl : l.length = 128
  · obtain ⟨i, o, L, c, rfl, hs0, h2, ⟨hlt', h6'⟩, h6, e0⟩ := ends_at hv hl
    simp -implicitDefEqProofs (disch := first | assumption | (simp only [wnA]; done) | (simp only [wnA]; omega) | omega | fail) [wkA, retV, stabOk, dC, ev, fillD, pickCells, putAt, bnd, slD, List.getElem?_cons_zero, List.getElem?_cons_succ, dR.eq_20, Mem.cell, Mem.row, wmA, hl, hs0, h2, h6, h6', byteV]
    exact hq' _ e0
  · have hl' : ¬ (l.length : Int) = 128 := by omega
    simp -implicitDefEqProofs (disch := first | assumption | (simp only [wnA]; done) | (simp only [wnA]; omega) | omega | fail) [wkA, retV, stabOk, dC, ev, fillD, pickCells, putAt, bnd, slD, List.getElem?_cons_zero, List.getElem?_cons_succ, dR.eq_20, Mem.cell, Mem.row, wmA, beqF hl']
    exact hq' _ (by simp [endsB, hl])
end Go.Proofs.YtiapjjgmmiifmaaGreatDoor.Ab

set_option linter.unusedVariables false
set_option linter.unusedSimpArgs false
namespace Go.Proofs.YtiapjjgmmiifmaaGreatDoor.Ab
open Go Go.RowKit
set_option maxHeartbeats 4000000
set_option maxRecDepth 100000
def zFl : Fl := ⟨⟨#[]⟩, 0, 0, 0⟩
open Classical in
noncomputable def readF (ds : List UInt8) : Option Fl := if h : ∃ f, mayB f = true ∧ ds = padL (tellL f) then some h.choose else none
theorem sameB_v {f g : Fl} (h : sameB f g = true) : f.v = g.v := by
  simp only [sameB, Bool.and_eq_true, beq_iff_eq] at h
  obtain ⟨h1, h2, h3, h4⟩ := h
  have : f.nm = g.nm := ByteArray.ext (Array.toList_inj.1 h1)
  simp only [Fl.v, this, h2, h3, h4]
theorem readF_some {f : Fl} (hf : mayB f = true) : ∃ g, readF (padL (tellL f)) = some g ∧ g = f ∧ mayB g = true := by
  have h : ∃ g, mayB g = true ∧ padL (tellL f) = padL (tellL g) := ⟨f, hf, rfl⟩
  refine ⟨h.choose, by unfold readF; rw [dif_pos h], ?_, h.choose_spec.1⟩
  have h2 := h.choose_spec
  have h3 := tell_inj h2.1 hf
  rw [← h2.2] at h3
  have h4 := sameB_v (f := h.choose) (g := f) (by rw [← h3]; simp)
  generalize h.choose = g at *
  obtain ⟨a, b, c, d⟩ := g
  obtain ⟨a', b', c', d'⟩ := f
  simp only [Fl.v, Value.agg.injEq, Array.mk.injEq, List.cons.injEq, Value.string.injEq, Value.int.injEq, true_and, and_true] at h4
  obtain ⟨rfl, rfl, rfl, rfl⟩ := h4
  rfl
theorem readF_none {ds : List UInt8} (h : ∀ f, mayB f = true → ds ≠ padL (tellL f)) : readF ds = none := by
  unfold readF
  rw [dif_neg (fun ⟨f, h1, h2⟩ => h f h1 h2)]
theorem readF_may {ds : List UInt8} {f : Fl} (h : readF ds = some f) : mayB f = true := by
  unfold readF at h
  split at h
  · rename_i hx
    cases h
    exact hx.choose_spec.1
  · cases h
theorem c_ReadF {w0 : World} {X : Nat → Prop} {m : Mem} {v : Value} {ds : List UInt8} {Q : Value → Mem → Prop} (hp : Part L0 m) (ht : Ten w0) (hE : ErrV w0) (hr : RdV X m 1 v (ds.map byteV) ds.length)
    (hq : ∀ M, Old m M → Q (.tuple ⟨[((readF ds).getD zFl).v, .bool (readF ds).isSome]⟩) M) : AbC Tryz.prog w0 73 [v] m Q := by
  refine c_Read hp ht hE hr.sl (fun b hb => (hr.bl b hb).1) (fun M o h => ?_) fun M f o h1 h2 => ?_
  · have := hq M o
    rw [readF_none h] at this
    exact this
  · subst h2
    have := hq M o
    obtain ⟨g, h3, rfl, h4⟩ := readF_some h1
    rw [h3] at this
    exact this
structure Br where
  tr : Int
  wt : Int
  part : Rc
  stage : Int
  file : Fl
  data : List UInt8
  over : Bool
  err : Nat
def brC (s : Br) (ip : Nat) (vd : Value) : List Value := [.int .i64 s.tr, .int .i64 s.wt, .pointer (some ⟨ip, 0, none⟩), .int .i64 s.stage, .string s.file.nm, .int .i64 s.file.size, .int .i64 s.file.time, .int .i64 s.file.mode, vd, .bool s.over, errV s.err]
structure BrW (s : Br) : Prop where
  s1 : 0 ≤ s.stage
  s2 : s.stage ≤ 3
  f : 0 ≤ s.file.size
  s3 : s.over = false → s.stage ≤ 2
  f2 : s.file.size ≤ 8192
  dl : s.data.length ≤ 8192
structure BrR (H : HL) (ib : Nat) (s : Br) : Prop where
  ex : ∃ ip HP od dl, H = (some ib, .own (brC s ip (slV od s.data.length 1)) 104) :: byH od dl :: HP ∧ RcR HP ip s.part ∧ s.data = dl.take s.data.length ∧ (od = none → s.data.length = 0)
  w : BrW s
noncomputable def aftF (s : Br) : Br :=
  if s.part.over = false then s
  else if s.part.err ≠ 0 then { s with over := true, err := s.part.err }
  else if s.stage + 1 = 1 then
    (match readF s.part.data with
    | none => { s with stage := s.stage + 1, over := true, err := 14 }
    | some f => { s with stage := s.stage + 1, file := f, part := rOf s.tr s.wt 1 true true 1 })
  else if s.stage + 1 = 2 then
    (if (s.part.data.length : Int) < s.file.size then { s with stage := s.stage + 1, over := true, err := 13 }
    else { s with stage := s.stage + 1, data := s.part.data.take s.file.size.toNat, part := rOf s.tr s.wt 0 true false 1 })
  else if endsB s.part.data = false then { s with stage := s.stage + 1, over := true, err := 14 }
  else { s with stage := s.stage + 1, over := true }
theorem c_bFail {w0 : World} {V : Nat → Prop} {m0 m : Mem} {l : HL} {ib ip : Nat} {s : Br} {vd : Value} {e : Nat} {Q : Value → Mem → Prop} (h : Sep m0 V m l) (q : Nat) (hl : l[q]? = some (some ib, .own (brC s ip vd) 104))
    (hq : ∀ M, Sep m0 V M (l.set q (some ib, .own (brC { s with over := true, err := e } ip vd) 104)) → Q (.tuple ⟨[]⟩) M) :
    AbC Tryz.prog w0 72 [.pointer (some ⟨ib, 0, none⟩), errV e] m Q := by
  refine AbC_fn ok72 (by simp) ?_
  simp -implicitDefEqProofs (disch := first | assumption | omega | fail) [rc72, ro72, wkB, retV, stabOk, dC, ev, fillD, pickCells, putAt, bnd, slD, List.getElem?_cons_zero, List.getElem?_cons_succ, Mem.cell, Mem.row, cells_own, cells_ro]
  refine SK_stS h q hl (o := 9) (vs := [.bool true]) (cs' := brC { s with over := true } ip vd) (by simp [wkB, retV, stabOk, dC, ev, fillD, pickCells, putAt, bnd, slD, List.getElem?_cons_zero, List.getElem?_cons_succ, Mem.cell, Mem.row, cells_own, cells_ro]) (by simp [wkB, retV, stabOk, dC, ev, fillD, pickCells, putAt, bnd, slD, List.getElem?_cons_zero, List.getElem?_cons_succ, Mem.cell, Mem.row, cells_own, cells_ro]) (by simp [brC]) rfl rfl (by simp [brC, putAt]) fun m1 h1 n1 => ?_
  have hl1 : (l.set q (some ib, Ent.own (brC { s with over := true } ip vd) 104))[q]? = some (some ib, .own (brC { s with over := true } ip vd) 104) := by
    rw [List.getElem?_set_self]; exact (List.getElem?_eq_some_iff.1 hl).1
  simp -implicitDefEqProofs (disch := first | assumption | omega | fail) [wkB, retV, stabOk, dC, ev, fillD, pickCells, putAt, bnd, slD, List.getElem?_cons_zero, List.getElem?_cons_succ, Mem.cell, Mem.row, cells_own, cells_ro]
  refine SK_stS h1 q hl1 (o := 10) (vs := [errV e]) (cs' := brC { s with over := true, err := e } ip vd) (by simp [wkB, retV, stabOk, dC, ev, fillD, pickCells, putAt, bnd, slD, List.getElem?_cons_zero, List.getElem?_cons_succ, Mem.cell, Mem.row, cells_own, cells_ro]) (by simp [wkB, retV, stabOk, dC, ev, fillD, pickCells, putAt, bnd, slD, List.getElem?_cons_zero, List.getElem?_cons_succ, Mem.cell, Mem.row, cells_own, cells_ro, cellsV_errV]) (by simp [brC]) rfl (by simp [oneC_errV]) (by simp [brC, putAt]) fun m2 h2 n2 => ?_
  rw [List.set_set] at h2
  simp -implicitDefEqProofs (disch := first | assumption | omega | fail) [wkB, retV, stabOk, dC, ev, fillD, pickCells, putAt, bnd, slD, List.getElem?_cons_zero, List.getElem?_cons_succ, Mem.cell, Mem.row, cells_own, cells_ro]
  exact hq m2 h2
end Go.Proofs.YtiapjjgmmiifmaaGreatDoor.Ab

set_option linter.unusedVariables false
set_option linter.unusedSimpArgs false
namespace Go.Proofs.YtiapjjgmmiifmaaGreatDoor.Ab
open Go Go.RowKit
set_option maxHeartbeats 4000000
set_option maxRecDepth 100000
theorem slW_upto {ob : Option Nat} {n k : Nat} (hp : ob = none → n = 0) (hk : k ≤ n) : slW 1 (slV ob n 1) none (some (.int .i64 (k : Int))) = some (slV ob k 1) := by
  cases ob with
  | none =>
    have := hp rfl
    subst this
    have hk0 : k = 0 := by omega
    subst hk0
    simp [slW, dR, ev, bnd, slV]
  | some b => simp [slW, dR, ev, bnd, slV, slD, hk]
theorem c_bAfter {w0 : World} {V : Nat → Prop} {m : Mem} {H : HL} {ib : Nat} {s : Br} {v : Value} {Q : Value → Mem → Prop} (ht : Ten w0) (hE : ErrV w0) (h : Sep m V m H) (hR : BrR H ib s) (hno : s.over = false) (hbig : s.part.data.length ≤ 140737488355328)
    (hq : ∀ M H', Sep m V M H' → BrR H' ib (aftF s) → Q v M) : AbC Tryz.prog w0 53 [.pointer (some ⟨ib, 0, none⟩), v] m Q := by
  refine AbC_fn ok53 (by simp) ?_
  obtain ⟨⟨ip, HP, od, dl, rfl, hP, hdt, hod⟩, hw⟩ := hR
  have hP0 := hP
  obtain ⟨⟨ob, od2, rfl, hb2, hd2⟩, hwp⟩ := hP
  have g0 := h.get 0 rfl
  simp only [brC] at g0
  unfold aftF at hq
  simp -implicitDefEqProofs (disch := first | assumption | omega | fail) [rc53, ro53, wkB, retV, stabOk, dC, ev, fillD, pickCells, putAt, bnd, slD, List.getElem?_cons_zero, List.getElem?_cons_succ, Mem.cell, Mem.row, cells_own, cells_ro, g0]
  refine c_rDone (s := s.part) h 2 rfl ?_
  cases hov : s.part.over with
  | false =>
    rw [if_pos hov] at hq
    simp -implicitDefEqProofs (disch := first | assumption | omega | fail) [wkB, retV, stabOk, dC, ev, fillD, pickCells, putAt, bnd, slD, List.getElem?_cons_zero, List.getElem?_cons_succ, Mem.cell, Mem.row, cells_own, cells_ro]
    exact hq m _ h ⟨⟨ip, _, od, dl, rfl, hP0, hdt, hod⟩, hw⟩
  | true =>
    rw [if_neg (by rw [hov]; simp)] at hq
    cases he : s.part.err with
    | succ k =>
      rw [if_pos (by rw [he]; simp)] at hq
      rw [he] at hq
      simp -implicitDefEqProofs (disch := first | assumption | omega | fail) [wkB, retV, stabOk, dC, ev, fillD, pickCells, putAt, bnd, slD, List.getElem?_cons_zero, List.getElem?_cons_succ, Mem.cell, Mem.row, cells_own, cells_ro, errV]
      refine c_bFail (s := s) (e := k + 1) h 0 rfl fun m1 h1 => ?_
      simp -implicitDefEqProofs (disch := first | assumption | omega | fail) [wkB, retV, stabOk, dC, ev, fillD, pickCells, putAt, bnd, slD, List.getElem?_cons_zero, List.getElem?_cons_succ, Mem.cell, Mem.row, cells_own, cells_ro]
      exact hq m1 _ h1 ⟨⟨ip, _, od, dl, rfl, hP0, hdt, hod⟩, ⟨hw.1, hw.2, hw.3, (fun e => by cases e), hw.5, hw.6⟩⟩
    | zero =>
      rw [if_neg (by rw [he]; simp)] at hq
      have hs1 := hw.s1
      have hs2 := hw.s3 hno
      have w1 : IntKind.i64.wrap (s.stage + 1) = s.stage + 1 := w64 (by omega)
      have h' : Sep m V m (rcH ip ob od2 s.part ++ [(some ib, .own (brC s ip (slV od s.data.length 1)) 104), byH od dl]) := h.sel [2, 3, 4, 0, 1] (by decide)
      simp -implicitDefEqProofs (disch := first | assumption | omega | fail) [wkB, retV, stabOk, dC, ev, fillD, pickCells, putAt, bnd, slD, List.getElem?_cons_zero, List.getElem?_cons_succ, Mem.cell, Mem.row, cells_own, cells_ro, errV, rc53_3, g0]
      refine c_rData h'.fr hP0 hbig fun oo m1 h1 hoo => ?_
      have h2 := h'.un h1
      have g2 := h2.get 4 rfl
      simp only [brC] at g2
      simp -implicitDefEqProofs (disch := first | assumption | omega | fail) [wkB, retV, stabOk, dC, ev, fillD, pickCells, putAt, bnd, slD, List.getElem?_cons_zero, List.getElem?_cons_succ, Mem.cell, Mem.row, cells_own, cells_ro, g2, w1]
      refine SK_stS h2 4 rfl (o := 3) (vs := [.int .i64 (s.stage + 1)]) (cs' := brC { s with stage := s.stage + 1 } ip (slV od s.data.length 1)) (by simp [wkB, retV, stabOk, dC, ev, fillD, pickCells, putAt, bnd, slD, List.getElem?_cons_zero, List.getElem?_cons_succ, Mem.cell, Mem.row, cells_own, cells_ro]) (by simp [wkB, retV, stabOk, dC, ev, fillD, pickCells, putAt, bnd, slD, List.getElem?_cons_zero, List.getElem?_cons_succ, Mem.cell, Mem.row, cells_own, cells_ro]) (by simp [brC]) rfl rfl (by simp [brC, putAt]) fun m3 h3 _ => ?_
      have g3 := h3.get 4 rfl
      simp only [brC] at g3
      have hO3 := h3.slO 0 (k := s.part.data.length) (sz := 1) rfl (by simp) hoo
      have hr3 : RdV (fun i => i < m3.next) m3 1 (slV oo s.part.data.length 1) (s.part.data.map byteV) s.part.data.length := h3.rd 0 rfl (by simp) hoo (fun i hi => by subst hi; exact h3.lt 0 rfl)
      by_cases hst1 : s.stage + 1 = 1
      · rw [if_pos hst1] at hq
        have hst : s.stage = 0 := by omega
        simp -implicitDefEqProofs (disch := first | assumption | omega | fail) [wkB, retV, stabOk, dC, ev, fillD, pickCells, putAt, bnd, slD, List.getElem?_cons_zero, List.getElem?_cons_succ, Mem.cell, Mem.row, cells_own, cells_ro, g3, hst]
        refine c_ReadF h3.pt ht hE hr3 fun m4 o4 => ?_
        have h4 := h3.old o4
        cases hrf : readF s.part.data with
        | none =>
          rw [hrf] at hq
          simp -implicitDefEqProofs (disch := first | assumption | omega | fail) [wkB, retV, stabOk, dC, ev, fillD, pickCells, putAt, bnd, slD, List.getElem?_cons_zero, List.getElem?_cons_succ, Mem.cell, Mem.row, cells_own, cells_ro, Fl.v, zFl]
          refine SK_alS h4 fun bx m5 h5 _ _ => ?_
          simp -implicitDefEqProofs (disch := first | assumption | omega | fail) [wkB, retV, stabOk, dC, ev, fillD, pickCells, putAt, bnd, slD, List.getElem?_cons_zero, List.getElem?_cons_succ, Mem.cell, Mem.row, cells_own, cells_ro]
          refine SK_stS h5 0 rfl (o := 0) (vs := [.string ⟨#[]⟩, .int .i64 0, .int .i64 0, .int .i64 0]) (cs' := [.string ⟨#[]⟩, .int .i64 0, .int .i64 0, .int .i64 0]) (by simp [wkB, retV, stabOk, dC, ev, fillD, pickCells, putAt, bnd, slD, List.getElem?_cons_zero, List.getElem?_cons_succ, Mem.cell, Mem.row, cells_own, cells_ro]) (by simp [wkB, retV, stabOk, dC, ev, fillD, pickCells, putAt, bnd, slD, List.getElem?_cons_zero, List.getElem?_cons_succ, Mem.cell, Mem.row, cells_own, cells_ro]) (by simp) rfl rfl rfl fun m6 h6 _ => ?_
          simp -implicitDefEqProofs (disch := first | assumption | omega | fail) [wkB, retV, stabOk, dC, ev, fillD, pickCells, putAt, bnd, slD, List.getElem?_cons_zero, List.getElem?_cons_succ, Mem.cell, Mem.row, cells_own, cells_ro]
          refine c_bFail (s := { s with stage := s.stage + 1 }) (e := 14) h6 5 rfl fun m7 h7 => ?_
          simp -implicitDefEqProofs (disch := first | assumption | omega | fail) [wkB, retV, stabOk, dC, ev, fillD, pickCells, putAt, bnd, slD, List.getElem?_cons_zero, List.getElem?_cons_succ, Mem.cell, Mem.row, cells_own, cells_ro]
          exact hq m7 _ (h7.sel [5, 6, 2, 3, 4] (by decide)) ⟨⟨ip, _, od, dl, rfl, hP0, hdt, hod⟩, ⟨by show 0 ≤ s.stage + 1; omega, by show s.stage + 1 ≤ 3; omega, hw.3, (fun e => by first | cases e | (show s.stage + 1 ≤ 2; omega)), hw.5, hw.6⟩⟩
        | some f =>
          rw [hrf] at hq
          have hfm := readF_may hrf
          simp -implicitDefEqProofs (disch := first | assumption | omega | fail) [wkB, retV, stabOk, dC, ev, fillD, pickCells, putAt, bnd, slD, List.getElem?_cons_zero, List.getElem?_cons_succ, Mem.cell, Mem.row, cells_own, cells_ro, Fl.v]
          refine SK_alS h4 fun bx m5 h5 _ _ => ?_
          simp -implicitDefEqProofs (disch := first | assumption | omega | fail) [wkB, retV, stabOk, dC, ev, fillD, pickCells, putAt, bnd, slD, List.getElem?_cons_zero, List.getElem?_cons_succ, Mem.cell, Mem.row, cells_own, cells_ro]
          refine SK_stS h5 0 rfl (o := 0) (vs := [.string f.nm, .int .i64 f.size, .int .i64 f.time, .int .i64 f.mode]) (cs' := [.string f.nm, .int .i64 f.size, .int .i64 f.time, .int .i64 f.mode]) (by simp [wkB, retV, stabOk, dC, ev, fillD, pickCells, putAt, bnd, slD, List.getElem?_cons_zero, List.getElem?_cons_succ, Mem.cell, Mem.row, cells_own, cells_ro]) (by simp [wkB, retV, stabOk, dC, ev, fillD, pickCells, putAt, bnd, slD, List.getElem?_cons_zero, List.getElem?_cons_succ, Mem.cell, Mem.row, cells_own, cells_ro]) (by simp) rfl rfl rfl fun m6 h6 _ => ?_
          have g6 := h6.get 0 rfl
          simp -implicitDefEqProofs (disch := first | assumption | omega | fail) [wkB, retV, stabOk, dC, ev, fillD, pickCells, putAt, bnd, slD, List.getElem?_cons_zero, List.getElem?_cons_succ, Mem.cell, Mem.row, cells_own, cells_ro, rc53_0, g6]
          refine SK_stS h6 5 rfl (o := 4) (vs := [.string f.nm, .int .i64 f.size, .int .i64 f.time, .int .i64 f.mode]) (cs' := brC { s with stage := s.stage + 1, file := f } ip (slV od s.data.length 1)) (by simp [wkB, retV, stabOk, dC, ev, fillD, pickCells, putAt, bnd, slD, List.getElem?_cons_zero, List.getElem?_cons_succ, Mem.cell, Mem.row, cells_own, cells_ro]) (by simp [wkB, retV, stabOk, dC, ev, fillD, pickCells, putAt, bnd, slD, List.getElem?_cons_zero, List.getElem?_cons_succ, Mem.cell, Mem.row, cells_own, cells_ro, g6]) (by simp [brC]) rfl rfl (by simp [brC, putAt]) fun m7 h7 _ => ?_
          have g7 := h7.get 5 rfl
          simp only [brC] at g7
          simp -implicitDefEqProofs (disch := first | assumption | omega | fail) [wkB, retV, stabOk, dC, ev, fillD, pickCells, putAt, bnd, slD, List.getElem?_cons_zero, List.getElem?_cons_succ, Mem.cell, Mem.row, cells_own, cells_ro, g7]
          refine c_rOf (n := 1) h7 fun ir2 H2 m8 h8 hR8 => ?_
          have h8 := h8.perm List.perm_append_comm
          simp -implicitDefEqProofs (disch := first | assumption | omega | fail) [wkB, retV, stabOk, dC, ev, fillD, pickCells, putAt, bnd, slD, List.getElem?_cons_zero, List.getElem?_cons_succ, Mem.cell, Mem.row, cells_own, cells_ro]
          refine SK_stS h8 5 rfl (o := 2) (vs := [.pointer (some ⟨ir2, 0, none⟩)]) (cs' := brC { s with stage := s.stage + 1, file := f } ir2 (slV od s.data.length 1)) (by simp [wkB, retV, stabOk, dC, ev, fillD, pickCells, putAt, bnd, slD, List.getElem?_cons_zero, List.getElem?_cons_succ, Mem.cell, Mem.row, cells_own, cells_ro]) (by simp [wkB, retV, stabOk, dC, ev, fillD, pickCells, putAt, bnd, slD, List.getElem?_cons_zero, List.getElem?_cons_succ, Mem.cell, Mem.row, cells_own, cells_ro]) (by simp [brC]) rfl rfl (by simp [brC, putAt]) fun m9 h9 _ => ?_
          simp -implicitDefEqProofs (disch := first | assumption | omega | fail) [wkB, retV, stabOk, dC, ev, fillD, pickCells, putAt, bnd, slD, List.getElem?_cons_zero, List.getElem?_cons_succ, Mem.cell, Mem.row, cells_own, cells_ro, rc53_2]
          have hf : 0 ≤ f.size ∧ f.size ≤ 8192 := by
            simp only [mayB, Bool.and_eq_true, decide_eq_true_eq] at hfm
            exact ⟨hfm.2.1, hfm.2.2.1⟩
          exact hq m9 _ (h9.sub (List.drop_sublist 5 _)) ⟨⟨ir2, H2, od, dl, rfl, hR8, hdt, hod⟩, ⟨by show 0 ≤ s.stage + 1; omega, by show s.stage + 1 ≤ 3; omega, hf.1, (fun e => by show s.stage + 1 ≤ 2; omega), hf.2, hw.6⟩⟩
      · rw [if_neg hst1] at hq
        have hst1' : (s.stage + 1 == 1) = false := beq_eq_false_iff_ne.2 hst1
        by_cases hst2 : s.stage + 1 = 2
        · rw [if_pos hst2] at hq
          have hst2' : (s.stage + 1 == 2) = true := beq_iff_eq.2 hst2
          have hsl3 := hO3.slen
          by_cases hlt : (s.part.data.length : Int) < s.file.size
          · rw [if_pos hlt] at hq
            simp -implicitDefEqProofs (disch := first | assumption | omega | fail) [wkB, retV, stabOk, dC, ev, fillD, pickCells, putAt, bnd, slD, List.getElem?_cons_zero, List.getElem?_cons_succ, Mem.cell, Mem.row, cells_own, cells_ro, g3, hst1', hst2', hsl3, hlt]
            refine c_bFail (s := { s with stage := s.stage + 1 }) (e := 13) h3 4 rfl fun m7 h7 => ?_
            simp -implicitDefEqProofs (disch := first | assumption | omega | fail) [wkB, retV, stabOk, dC, ev, fillD, pickCells, putAt, bnd, slD, List.getElem?_cons_zero, List.getElem?_cons_succ, Mem.cell, Mem.row, cells_own, cells_ro]
            exact hq m7 _ (h7.sel [4, 5, 1, 2, 3] (by decide)) ⟨⟨ip, _, od, dl, rfl, hP0, hdt, hod⟩, ⟨by show 0 ≤ s.stage + 1; omega, by show s.stage + 1 ≤ 3; omega, hw.3, (fun e => by first | cases e | (show s.stage + 1 ≤ 2; omega)), hw.5, hw.6⟩⟩
          · rw [if_neg hlt] at hq
            obtain ⟨z, hz⟩ : ∃ z : Nat, s.file.size = (z : Int) := ⟨s.file.size.toNat, by have := hw.f; omega⟩
            rw [hz] at g3 hlt
            have hzn : s.file.size.toNat = z := by omega
            rw [hzn] at hq
            have hsl := slW_upto (k := z) hoo (by omega)
            simp -implicitDefEqProofs (disch := first | assumption | omega | fail) [wkB, retV, stabOk, dC, ev, fillD, pickCells, putAt, bnd, slD, List.getElem?_cons_zero, List.getElem?_cons_succ, Mem.cell, Mem.row, cells_own, cells_ro, g3, hst1', hst2', hsl3, hlt, rc53_1, hsl]
            refine SK_stS h3 4 rfl (o := 8) (vs := [slV oo z 1]) (cs' := brC { s with stage := s.stage + 1, data := s.part.data.take z } ip (slV oo z 1)) (by simp [wkB, retV, stabOk, dC, ev, fillD, pickCells, putAt, bnd, slD, List.getElem?_cons_zero, List.getElem?_cons_succ, Mem.cell, Mem.row, cells_own, cells_ro]) (by simp [wkB, retV, stabOk, dC, ev, fillD, pickCells, putAt, bnd, slD, List.getElem?_cons_zero, List.getElem?_cons_succ, Mem.cell, Mem.row, cells_own, cells_ro]) (by simp [brC]) rfl (by simp [oneC_slV]) (by simp [brC, putAt]) fun m5 h5 _ => ?_
            have g5 := h5.get 4 rfl
            simp only [brC] at g5
            simp -implicitDefEqProofs (disch := first | assumption | omega | fail) [wkB, retV, stabOk, dC, ev, fillD, pickCells, putAt, bnd, slD, List.getElem?_cons_zero, List.getElem?_cons_succ, Mem.cell, Mem.row, cells_own, cells_ro, g5]
            refine c_rOf (n := 0) h5 fun ir2 H2 m8 h8 hR8 => ?_
            have h8 := h8.perm List.perm_append_comm
            simp -implicitDefEqProofs (disch := first | assumption | omega | fail) [wkB, retV, stabOk, dC, ev, fillD, pickCells, putAt, bnd, slD, List.getElem?_cons_zero, List.getElem?_cons_succ, Mem.cell, Mem.row, cells_own, cells_ro]
            refine SK_stS h8 4 rfl (o := 2) (vs := [.pointer (some ⟨ir2, 0, none⟩)]) (cs' := brC { s with stage := s.stage + 1, data := s.part.data.take z } ir2 (slV oo z 1)) (by simp [wkB, retV, stabOk, dC, ev, fillD, pickCells, putAt, bnd, slD, List.getElem?_cons_zero, List.getElem?_cons_succ, Mem.cell, Mem.row, cells_own, cells_ro]) (by simp [wkB, retV, stabOk, dC, ev, fillD, pickCells, putAt, bnd, slD, List.getElem?_cons_zero, List.getElem?_cons_succ, Mem.cell, Mem.row, cells_own, cells_ro]) (by simp [brC]) rfl rfl (by simp [brC, putAt]) fun m9 h9 _ => ?_
            simp -implicitDefEqProofs (disch := first | assumption | omega | fail) [wkB, retV, stabOk, dC, ev, fillD, pickCells, putAt, bnd, slD, List.getElem?_cons_zero, List.getElem?_cons_succ, Mem.cell, Mem.row, cells_own, cells_ro, rc53_2]
            have hlz : (s.part.data.take z).length = z := by simp; omega
            have h10 : Sep m V m9 ((some ib, .own (brC { s with stage := s.stage + 1, data := s.part.data.take z } ir2 (slV oo (s.part.data.take z).length 1)) 104) :: byH oo s.part.data :: H2) := by
              rw [hlz]
              exact (h9.sub ((((((List.Sublist.refl H2).cons _).cons_cons _).cons _).cons _).cons _ |>.cons_cons _)).perm (List.Perm.swap _ _ _)
            exact hq m9 _ h10 ⟨⟨ir2, H2, oo, s.part.data, rfl, hR8, by show s.part.data.take z = _; rw [hlz], fun e => by show (s.part.data.take z).length = 0; have := hoo e; omega⟩, ⟨by show 0 ≤ s.stage + 1; omega, by show s.stage + 1 ≤ 3; omega, hw.3, (fun e => by first | cases e | (show s.stage + 1 ≤ 2; omega)), hw.5, by show (s.part.data.take z).length ≤ 8192; have := hw.f2; omega⟩⟩
        · rw [if_neg hst2] at hq
          have hst2' : (s.stage + 1 == 2) = false := beq_eq_false_iff_ne.2 hst2
          simp -implicitDefEqProofs (disch := first | assumption | omega | fail) [wkB, retV, stabOk, dC, ev, fillD, pickCells, putAt, bnd, slD, List.getElem?_cons_zero, List.getElem?_cons_succ, Mem.cell, Mem.row, cells_own, cells_ro, g3, hst1', hst2']
          refine c_Ends hr3.sl ?_
          cases hen : endsB s.part.data with
          | false =>
            rw [if_pos hen] at hq
            simp -implicitDefEqProofs (disch := first | assumption | omega | fail) [wkB, retV, stabOk, dC, ev, fillD, pickCells, putAt, bnd, slD, List.getElem?_cons_zero, List.getElem?_cons_succ, Mem.cell, Mem.row, cells_own, cells_ro]
            refine c_bFail (s := { s with stage := s.stage + 1 }) (e := 14) h3 4 rfl fun m7 h7 => ?_
            simp -implicitDefEqProofs (disch := first | assumption | omega | fail) [wkB, retV, stabOk, dC, ev, fillD, pickCells, putAt, bnd, slD, List.getElem?_cons_zero, List.getElem?_cons_succ, Mem.cell, Mem.row, cells_own, cells_ro]
            exact hq m7 _ (h7.sel [4, 5, 1, 2, 3] (by decide)) ⟨⟨ip, _, od, dl, rfl, hP0, hdt, hod⟩, ⟨by show 0 ≤ s.stage + 1; omega, by show s.stage + 1 ≤ 3; omega, hw.3, (fun e => by first | cases e | (show s.stage + 1 ≤ 2; omega)), hw.5, hw.6⟩⟩
          | true =>
            rw [if_neg (by rw [hen]; simp)] at hq
            simp -implicitDefEqProofs (disch := first | assumption | omega | fail) [wkB, retV, stabOk, dC, ev, fillD, pickCells, putAt, bnd, slD, List.getElem?_cons_zero, List.getElem?_cons_succ, Mem.cell, Mem.row, cells_own, cells_ro]
            refine SK_stS h3 4 rfl (o := 9) (vs := [.bool true]) (cs' := brC { s with stage := s.stage + 1, over := true } ip (slV od s.data.length 1)) (by simp [wkB, retV, stabOk, dC, ev, fillD, pickCells, putAt, bnd, slD, List.getElem?_cons_zero, List.getElem?_cons_succ, Mem.cell, Mem.row, cells_own, cells_ro]) (by simp [wkB, retV, stabOk, dC, ev, fillD, pickCells, putAt, bnd, slD, List.getElem?_cons_zero, List.getElem?_cons_succ, Mem.cell, Mem.row, cells_own, cells_ro]) (by simp [brC]) rfl rfl (by simp [brC, putAt]) fun m7 h7 _ => ?_
            simp -implicitDefEqProofs (disch := first | assumption | omega | fail) [wkB, retV, stabOk, dC, ev, fillD, pickCells, putAt, bnd, slD, List.getElem?_cons_zero, List.getElem?_cons_succ, Mem.cell, Mem.row, cells_own, cells_ro, rc53_2]
            exact hq m7 _ (h7.sel [4, 5, 1, 2, 3] (by decide)) ⟨⟨ip, _, od, dl, rfl, hP0, hdt, hod⟩, ⟨by show 0 ≤ s.stage + 1; omega, by show s.stage + 1 ≤ 3; omega, hw.3, (fun e => by first | cases e | (show s.stage + 1 ≤ 2; omega)), hw.5, hw.6⟩⟩
end Go.Proofs.YtiapjjgmmiifmaaGreatDoor.Ab
