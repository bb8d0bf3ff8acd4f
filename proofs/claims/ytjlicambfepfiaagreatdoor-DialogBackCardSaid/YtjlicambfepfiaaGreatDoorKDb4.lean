/- Parts of a proof, put together: A text in quotes: what the program makes of a text. -/
import Derived.Test.YtjlicambfepfiaaGreatDoorKDb3
import Derived.Lib.SplitLaws
import Derived.Lib.TrimByte
import Derived.Lib.IndexBytes
import Derived.Lib.ItoaMem
set_option linter.unusedVariables false
set_option linter.unusedSimpArgs false
namespace Go.Proofs.YtjlicambfepfiaaGreatDoor.Ab
open Go Go.RowKit
set_option maxHeartbeats 4000000
set_option maxRecDepth 100000
def escC (c : UInt8) : Option (List UInt8) :=
  if c.toNat = 13 then some [92, 114] else if c.toNat = 10 then some [92, 110] else if c.toNat < 32 ∨ 126 < c.toNat then none else if c.toNat = 34 ∨ c.toNat = 92 then some [92, c] else some [c]
def escL : List UInt8 → Option (List UInt8)
  | [] => some []
  | c :: l => match escC c, escL l with
    | some a, some b => some (a ++ b)
    | _, _ => none
theorem escL_snoc : ∀ {l e : List UInt8} {c : UInt8} {a : List UInt8}, escL l = some e → escC c = some a → escL (l ++ [c]) = some (e ++ a)
  | [], e, c, a, h, ha => by simp [escL] at h; subst h; simp [escL, ha]
  | x :: l, e, c, a, h, ha => by
    simp only [escL] at h
    split at h
    · rename_i p q hp hq
      simp at h; subst h
      simp [escL, hp, escL_snoc hq ha]
    · cases h
theorem escL_none : ∀ {l r : List UInt8} {c : UInt8}, escC c = none → escL (l ++ c :: r) = none
  | [], r, c, h => by simp [escL, h]
  | x :: l, r, c, h => by simp only [List.cons_append, escL, escL_none h]; split <;> first | rfl | (rename_i h1 h2; cases h2)
theorem escC_len {c : UInt8} {a : List UInt8} (h : escC c = some a) : 1 ≤ a.length ∧ a.length ≤ 2 := by
  unfold escC at h
  split at h
  · simp at h; subst h; simp
  · split at h
    · simp at h; subst h; simp
    · split at h
      · cases h
      · split at h <;> (simp at h; subst h; simp)
theorem escL_len : ∀ {l e : List UInt8}, escL l = some e → e.length ≤ 2 * l.length
  | [], e, h => by simp [escL] at h; subst h; simp
  | x :: l, e, h => by
    simp only [escL] at h
    split at h
    · rename_i p q hp hq
      simp at h; subst h
      have := (escC_len hp).2
      have := escL_len hq
      simp; omega
    · cases h
/-- What Quote yields. -/
def quoteV (l : List UInt8) : Value := match escL l with
  | some e => .tuple ⟨[.string ⟨⟨34 :: (e ++ [34])⟩⟩, .bool true]⟩
  | none => .tuple ⟨[.string ⟨⟨[]⟩⟩, .bool false]⟩
theorem take_succ' {l : List UInt8} {j : Nat} {c : UInt8} (h : l[j]? = some c) : l.take (j + 1) = l.take j ++ [c] := by
  rw [List.take_add_one, h]; rfl
theorem split_at {l : List UInt8} {j : Nat} {c : UInt8} (h : l[j]? = some c) : l = l.take j ++ c :: l.drop (j + 1) := by
  obtain ⟨hj, rfl⟩ := List.getElem?_eq_some_iff.1 h
  rw [← List.drop_eq_getElem_cons hj, List.take_append_drop]
theorem ba_get {s : ByteArray} {j : Nat} (h : j < s.size) : s[j]? = some s[j] ∧ s.data.toList[j]? = some s[j] := by
  refine ⟨getElem?_pos s j h, ?_⟩
  have hl : j < s.data.toList.length := by simpa using h
  rw [List.getElem?_eq_getElem hl]
  rfl
theorem ba_ext1 {s : ByteArray} {j : Nat} (h : j < s.size) : s.extract j (j + 1) = ⟨⟨[s[j]]⟩⟩ := by
  apply ByteArray.ext
  apply Array.ext'
  obtain ⟨_, h2⟩ := ba_get h
  simp only [ByteArray.data_extract, Array.toList_extract]
  rw [List.extract_eq_take_drop, show j + 1 - j = 1 from by omega]
  rw [split_at h2]
  simp only [List.drop_append, List.length_take]
  have hl : j < s.data.toList.length := by simpa using h
  rw [Nat.min_eq_left (by omega), Nat.sub_self]
  simp [List.drop_take]
theorem c_Quote {w0 : World} {m : Mem} {s : ByteArray} {Q : Value → Mem → Prop} (hl : s.size ≤ 1099511627776) (hq : ∀ m', Old m m' → Q (quoteV s.data.toList) m') :
    AbC Tryz.prog w0 41 [.string s] m Q := by
  refine AbC_fn ok41 (by simp) ?_
  simp -implicitDefEqProofs (disch := first | assumption | (simp only [wnA]; done) | (simp only [wnA]; omega) | omega | fail) [rc41, ro41, wkA, retV, stabOk, dC, ev, fillD, pickCells, putAt, bnd, slD, List.getElem?_cons_zero, List.getElem?_cons_succ, dR.eq_20, Mem.cell, Mem.row, wmA]
  refine c_WriteByte (b := 34) (Bld.new (Old.refl m)) (by simp) fun m1 h1 => ?_
  simp -implicitDefEqProofs (disch := first | assumption | (simp only [wnA]; done) | (simp only [wnA]; omega) | omega | fail) [wkA, retV, stabOk, dC, ev, fillD, pickCells, putAt, bnd, slD, List.getElem?_cons_zero, List.getElem?_cons_succ, dR.eq_20, Mem.cell, Mem.row, wmA]
  refine LoopW_of (fun k ts m' => ∃ j e, j + k = s.size ∧ ts 0 = .string s ∧ ts 9 = .int .i64 (s.size : Nat) ∧ ts 10 = .int .i64 (j : Nat) ∧ ts 4 = .pointer (some ⟨m.next, 0, none⟩) ∧ escL (s.data.toList.take j) = some e ∧ Bld m m' m.next (34 :: e)) s.size ?_ ?_
  · exact ⟨0, [], by omega, by simp [frA_at], by simp, by simp, by simp, by simp [escL], by simpa using h1⟩
  · rintro k ts m2 K ⟨j, e, hj, t0, t9, t10, t4, he, hb⟩ hK
    have hel := escL_len he
    have htl : (s.data.toList.take j).length ≤ j := by simp; omega
    simp -implicitDefEqProofs (disch := first | assumption | (simp only [wnA]; done) | (simp only [wnA]; omega) | omega | fail) [rc41_1, wkA, retV, stabOk, dC, ev, fillD, pickCells, putAt, bnd, slD, List.getElem?_cons_zero, List.getElem?_cons_succ, dR.eq_20, Mem.cell, Mem.row, wmA, t9, t10]
    by_cases hjl : j < s.size
    · obtain ⟨g1, g2⟩ := ba_get hjl
      have ge := ba_ext1 hjl
      have fin : ∀ (a : List UInt8) (ts' : Fr) (m' : Mem), escC s[j] = some a → Bld m m' m.next (34 :: e ++ a) → ts' 0 = ts 0 → ts' 9 = ts 9 → ts' 4 = ts 4 → ts' 10 = .int .i64 ((j + 1 : Nat) : Int) → K ts' m' := fun a ts' m' ha hb' r0 r9 r4 r10 =>
        hK (k - 1) ts' m' (by omega) ⟨j + 1, e ++ a, by omega, by rw [r0, t0], by rw [r9, t9], r10, by rw [r4, t4], by rw [take_succ' g2]; exact escL_snoc he ha, by simpa using hb'⟩
      have bad : escC s[j] = none → ∀ m', Old m m' → Q (.tuple ⟨[.string ⟨⟨[]⟩⟩, .bool false]⟩) m' := fun hn m' ho => by
        have := hq m' ho
        rw [split_at g2] at this
        simpa [quoteV, escL_none hn] using this
      simp -implicitDefEqProofs (disch := first | assumption | (simp only [wnA]; done) | (simp only [wnA]; omega) | omega | fail) [hjl, rc41_0, wkA, retV, stabOk, dC, ev, fillD, pickCells, putAt, bnd, slD, List.getElem?_cons_zero, List.getElem?_cons_succ, dR.eq_20, Mem.cell, Mem.row, wmA, t0, t10, g1]
      have cls : (s[j]).toNat = 13 ∨ (s[j]).toNat = 10 ∨ ((s[j]).toNat < 32 ∧ (s[j]).toNat ≠ 13 ∧ (s[j]).toNat ≠ 10) ∨ (s[j]).toNat = 34 ∨ (s[j]).toNat = 92 ∨ (32 ≤ (s[j]).toNat ∧ (s[j]).toNat ≤ 126 ∧ (s[j]).toNat ≠ 34 ∧ (s[j]).toNat ≠ 92) ∨ 126 < (s[j]).toNat := by omega
      rcases cls with h | h | h | h | h | h | h
      · simp -implicitDefEqProofs (disch := first | assumption | (simp only [wnA]; done) | (simp only [wnA]; omega) | omega | fail) [beqT, wkA, retV, stabOk, dC, ev, fillD, pickCells, putAt, bnd, slD, List.getElem?_cons_zero, List.getElem?_cons_succ, dR.eq_20, Mem.cell, Mem.row, wmA, t4]
        refine c_WriteString hb (by show (34 :: e).length + 2 ≤ _; simp; omega) fun m3 h3 => ?_
        simp -implicitDefEqProofs (disch := first | assumption | (simp only [wnA]; done) | (simp only [wnA]; omega) | omega | fail) [wkA, retV, stabOk, dC, ev, fillD, pickCells, putAt, bnd, slD, List.getElem?_cons_zero, List.getElem?_cons_succ, dR.eq_20, Mem.cell, Mem.row, wmA, t10, w64]
        exact fin [92, 114] _ _ (by simp [escC, h]) (by simpa using h3) (by simp) (by simp) (by simp) (by simp)
      · simp -implicitDefEqProofs (disch := first | assumption | (simp only [wnA]; done) | (simp only [wnA]; omega) | omega | fail) [beqT, beqF, wkA, retV, stabOk, dC, ev, fillD, pickCells, putAt, bnd, slD, List.getElem?_cons_zero, List.getElem?_cons_succ, dR.eq_20, Mem.cell, Mem.row, wmA, t4]
        refine c_WriteString hb (by show (34 :: e).length + 2 ≤ _; simp; omega) fun m3 h3 => ?_
        simp -implicitDefEqProofs (disch := first | assumption | (simp only [wnA]; done) | (simp only [wnA]; omega) | omega | fail) [wkA, retV, stabOk, dC, ev, fillD, pickCells, putAt, bnd, slD, List.getElem?_cons_zero, List.getElem?_cons_succ, dR.eq_20, Mem.cell, Mem.row, wmA, t10, w64]
        exact fin [92, 110] _ _ (by simp [escC, h]) (by simpa using h3) (by simp) (by simp) (by simp) (by simp)
      · simp -implicitDefEqProofs (disch := first | assumption | (simp only [wnA]; done) | (simp only [wnA]; omega) | omega | fail) [beqT, beqF, ltT, ltF, gtT, gtF, wkA, retV, stabOk, dC, ev, fillD, pickCells, putAt, bnd, slD, List.getElem?_cons_zero, List.getElem?_cons_succ, dR.eq_20, Mem.cell, Mem.row, wmA, t4]
        exact bad (by simp [escC, h]) _ hb.1
      all_goals first
        | (have hcat : (⟨#[92]⟩ : ByteArray) ++ ⟨⟨[s[j]]⟩⟩ = ⟨⟨[92, s[j]]⟩⟩ := bApp_eq [92] [s[j]]
           have hb1 : (0 : Int) ≤ (j : Int) + 1 ∧ (j : Int) + 1 ≤ s.size := by omega
           have hb2 : (j : Int) ≤ (j : Int) + 1 := by omega
           have hb3 : ((j : Int) + 1).toNat = j + 1 := by omega
           simp -implicitDefEqProofs (disch := first | assumption | (simp only [wnA]; done) | (simp only [wnA]; omega) | omega | fail) [beqT, beqF, ltT, ltF, gtT, gtF, wkA, retV, stabOk, dC, ev, fillD, pickCells, putAt, bnd, slD, List.getElem?_cons_zero, List.getElem?_cons_succ, dR.eq_20, Mem.cell, Mem.row, wmA, t0, t4, t10, w64, hb1, hb2, hb3, ge]
           rw [dBin_sadd (by show 1 + 1 ≤ _; omega), hcat]
           simp -implicitDefEqProofs (disch := first | assumption | (simp only [wnA]; done) | (simp only [wnA]; omega) | omega | fail) [wkA, retV, stabOk, dC, ev, fillD, pickCells, putAt, bnd, slD, List.getElem?_cons_zero, List.getElem?_cons_succ, dR.eq_20, Mem.cell, Mem.row, wmA, t4]
           refine c_WriteString hb (by show (34 :: e).length + 2 ≤ _; simp; omega) fun m3 h3 => ?_
           simp -implicitDefEqProofs (disch := first | assumption | (simp only [wnA]; done) | (simp only [wnA]; omega) | omega | fail) [wkA, retV, stabOk, dC, ev, fillD, pickCells, putAt, bnd, slD, List.getElem?_cons_zero, List.getElem?_cons_succ, dR.eq_20, Mem.cell, Mem.row, wmA, t10, w64]
           exact fin [92, s[j]] _ _ (by simp [escC, h]) (by simpa using h3) (by simp) (by simp) (by simp) (by simp))
        | (simp -implicitDefEqProofs (disch := first | assumption | (simp only [wnA]; done) | (simp only [wnA]; omega) | omega | fail) [beqT, beqF, ltT, ltF, gtT, gtF, wkA, retV, stabOk, dC, ev, fillD, pickCells, putAt, bnd, slD, List.getElem?_cons_zero, List.getElem?_cons_succ, dR.eq_20, Mem.cell, Mem.row, wmA, t4]
           exact bad (by unfold escC; rw [if_neg (by omega), if_neg (by omega), if_pos (by omega)]) _ hb.1)
        | (simp -implicitDefEqProofs (disch := first | assumption | (simp only [wnA]; done) | (simp only [wnA]; omega) | omega | fail) [beqT, beqF, ltT, ltF, gtT, gtF, wkA, retV, stabOk, dC, ev, fillD, pickCells, putAt, bnd, slD, List.getElem?_cons_zero, List.getElem?_cons_succ, dR.eq_20, Mem.cell, Mem.row, wmA, t4]
           refine c_WriteByte hb (by simp; omega) fun m3 h3 => ?_
           simp -implicitDefEqProofs (disch := first | assumption | (simp only [wnA]; done) | (simp only [wnA]; omega) | omega | fail) [wkA, retV, stabOk, dC, ev, fillD, pickCells, putAt, bnd, slD, List.getElem?_cons_zero, List.getElem?_cons_succ, dR.eq_20, Mem.cell, Mem.row, wmA, t10, w64]
           exact fin [s[j]] _ _ (by unfold escC; rw [if_neg (by omega), if_neg (by omega), if_neg (by omega), if_neg (by omega)]) (by simpa using h3) (by simp) (by simp) (by simp) (by simp))
    · have hjj : j = s.size := by omega
      subst hjj
      simp -implicitDefEqProofs (disch := first | assumption | (simp only [wnA]; done) | (simp only [wnA]; omega) | omega | fail) [hjl, rc41_2, wkA, retV, stabOk, dC, ev, fillD, pickCells, putAt, bnd, slD, List.getElem?_cons_zero, List.getElem?_cons_succ, dR.eq_20, Mem.cell, Mem.row, wmA, t4]
      have hfull : s.data.toList.take s.size = s.data.toList := List.take_of_length_le (by simp)
      rw [hfull] at he
      refine c_BString hb (by simp; omega) fun m3 h3 => ?_
      have hcat : (⟨⟨34 :: e⟩⟩ : ByteArray) ++ ⟨#[34]⟩ = ⟨⟨34 :: (e ++ [34])⟩⟩ := by
        have := bApp_eq (34 :: e) [34]
        simpa using this
      simp -implicitDefEqProofs (disch := first | assumption | (simp only [wnA]; done) | (simp only [wnA]; omega) | omega | fail) [wkA, retV, stabOk, dC, ev, fillD, pickCells, putAt, bnd, slD, List.getElem?_cons_zero, List.getElem?_cons_succ, dR.eq_20, Mem.cell, Mem.row, wmA]
      rw [dBin_sadd (by show (34 :: e).length + 1 ≤ _; simp; omega), hcat]
      simp -implicitDefEqProofs (disch := first | assumption | (simp only [wnA]; done) | (simp only [wnA]; omega) | omega | fail) [wkA, retV, stabOk, dC, ev, fillD, pickCells, putAt, bnd, slD, List.getElem?_cons_zero, List.getElem?_cons_succ, dR.eq_20, Mem.cell, Mem.row, wmA]
      have := hq m3 h3
      simpa [quoteV, he] using this
end Go.Proofs.YtjlicambfepfiaaGreatDoor.Ab

set_option linter.unusedVariables false
set_option linter.unusedSimpArgs false
namespace Go.Proofs.YtjlicambfepfiaaGreatDoor.Ab
open Go Go.RowKit
set_option maxHeartbeats 4000000
set_option maxRecDepth 100000
/-- A builder that may have an empty row. -/
def BldG (base m : Mem) (i : Nat) (bs : List UInt8) : Prop := Old base m ∧ base.next ≤ i ∧ i < m.next ∧ ∃ pa ob, m.get i = .own [pa, slV ob bs.length 1] 96 ∧ (pa = .pointer none ∨ pa = .pointer (some ⟨i, 0, none⟩)) ∧
  SlO m 5 1 ob (bs.map byteV) bs.length ∧ ∀ b, ob = some b → base.next ≤ b ∧ b ≠ i
theorem Bld.g {base m : Mem} {i : Nat} {bs : List UInt8} (h : Bld base m i bs) : BldG base m i bs :=
  let ⟨a, b, c, pa, ob, d, e, f, _, g⟩ := h; ⟨a, b, c, pa, ob, d, e, f, g⟩
theorem c_WriteStringG {w0 : World} {base m : Mem} {i : Nat} {bs : List UInt8} {s : ByteArray} {Q : Value → Mem → Prop} (h : BldG base m i bs) (hl : bs.length + s.size ≤ 140737488355328) (hq : ∀ m', BldG base m' i (bs ++ s.data.toList) → Q (.tuple ⟨[.int .i64 s.size, .nilIface]⟩) m') :
    AbC Tryz.prog w0 38 [.pointer (some ⟨i, 0, none⟩), .string s] m Q := by
  refine AbC_fn ok38 (by simp) ?_
  obtain ⟨h1, h2, h3, pa, ob, h4, h5, h6, h7⟩ := h
  simp -implicitDefEqProofs (disch := first | assumption | (simp only [wnA]; done) | (simp only [wnA]; omega) | omega | fail) [rc38, ro38, wkA, retV, stabOk, dC, ev, fillD, pickCells, putAt, bnd, slD, List.getElem?_cons_zero, List.getElem?_cons_succ, dR_sl, Mem.cell, Mem.row, wmA]
  refine c_copyCheck h4 h5 fun m1 n1 g1 o1 => ?_
  have hs1 : SlO m1 5 1 ob (bs.map byteV) bs.length := h6.keep (Nat.le_of_eq n1.symm) fun k hk => o1 _ (h7 k hk).2
  have hold : Old base m1 := ⟨by have := h1.1; omega, fun k hk => by rw [o1 _ (by omega), h1.2 k hk]⟩
  have hsz : s.data.toList.length = s.size := by simp
  simp -implicitDefEqProofs (disch := first | assumption | (simp only [wnA]; done) | (simp only [wnA]; omega) | omega | fail) [wkA, retV, stabOk, dC, ev, fillD, pickCells, putAt, bnd, slD, List.getElem?_cons_zero, List.getElem?_cons_succ, dR_sl, Mem.cell, Mem.row, wmA, g1]
  have hoi : ob ≠ some i := fun e => (h7 i e).2 rfl
  by_cases h00 : s.size = 0
  · have he : s.data.toList = [] := List.length_eq_zero_iff.1 (by omega)
    have hx : ∀ (ts : Fr) (R : Value → Mem → Prop), ts 12 = slV ob bs.length 1 → ts 13 = .string s → R (slV ob bs.length 1) m1 → SK Tryz.prog w0 (.e (.app 5 1 1 (.tmp 12) (.tmp 13))) ts m1 R := by
      intro ts R e1 e2 hR
      simp only [SK, dE, ev, e1, e2, elemsV, if_true, lenV_str, h00]
      cases ob with
      | none =>
        have := hs1.2
        simp only [slV] at hR ⊢
        exact hR
      | some b => exact hR
    refine hx _ _ (by simp) (by simp) ?_
    simp -implicitDefEqProofs (disch := first | assumption | (simp only [wnA]; done) | (simp only [wnA]; omega) | omega | fail) [wkA, retV, stabOk, dC, ev, fillD, pickCells, putAt, bnd, slD, List.getElem?_cons_zero, List.getElem?_cons_succ, dR_sl, Mem.cell, Mem.row, wmA, g1]
    refine SK_st (i := i) (o := 1) (by simp [wkA, retV, stabOk, dC, ev, fillD, pickCells, putAt, bnd, slD, List.getElem?_cons_zero, List.getElem?_cons_succ, dR_sl]) (e := 96) (cs := [.pointer (some ⟨i, 0, none⟩), slV ob bs.length 1]) g1 (by simp) (by simp [wkA, retV, stabOk, dC, ev, fillD, pickCells, putAt, bnd, slD, List.getElem?_cons_zero, List.getElem?_cons_succ, dR_sl]) (by simp [wkA, retV, stabOk, dC, ev, fillD, pickCells, putAt, bnd, slD, List.getElem?_cons_zero, List.getElem?_cons_succ, dR_sl]) ?_
    simp -implicitDefEqProofs (disch := first | assumption | (simp only [wnA]; done) | (simp only [wnA]; omega) | omega | fail) [wkA, retV, stabOk, dC, ev, fillD, pickCells, putAt, bnd, slD, List.getElem?_cons_zero, List.getElem?_cons_succ, dR_sl, Mem.cell, Mem.row, wmA]
    refine hq _ ?_
    rw [he, List.append_nil]
    exact ⟨hold.set h2 _, h2, by simp; omega, _, ob, by simp, .inr rfl, hs1.set hoi _, h7⟩
  · refine SK_ap hs1 (by simp [wkA, retV, stabOk, dC, ev, fillD, pickCells, putAt, bnd, slD, List.getElem?_cons_zero, List.getElem?_cons_succ, dR_sl]) (ys := s.data.toList.map byteV) (by simp -implicitDefEqProofs (disch := first | assumption | (simp only [wnA]; done) | (simp only [wnA]; omega) | omega | fail) [wkA, retV, stabOk, dC, ev, fillD, pickCells, putAt, bnd, slD, List.getElem?_cons_zero, List.getElem?_cons_succ, dR_sl, elemsV, Mem.cell, Mem.row, wmA]) (k := s.size) (by simp [wkA, retV, stabOk, dC, ev, fillD, pickCells, putAt, bnd, slD, List.getElem?_cons_zero, List.getElem?_cons_succ, dR_sl]) (by omega) (byteV_oneC _) (by omega) (by simp only [maxLen]; omega) (by simp) ?_
    simp -implicitDefEqProofs (disch := first | assumption | (simp only [wnA]; done) | (simp only [wnA]; omega) | omega | fail) [wkA, retV, stabOk, dC, ev, fillD, pickCells, putAt, bnd, slD, List.getElem?_cons_zero, List.getElem?_cons_succ, dR_sl, Mem.cell, Mem.row, wmA, g1]
    refine SK_st (i := i) (o := 1) (by simp [wkA, retV, stabOk, dC, ev, fillD, pickCells, putAt, bnd, slD, List.getElem?_cons_zero, List.getElem?_cons_succ, dR_sl]) (e := 96) (cs := [.pointer (some ⟨i, 0, none⟩), slV ob bs.length 1]) ?_ (by simp) (by simp [wkA, retV, stabOk, dC, ev, fillD, pickCells, putAt, bnd, slD, List.getElem?_cons_zero, List.getElem?_cons_succ, dR_sl]) (by simp [wkA, retV, stabOk, dC, ev, fillD, pickCells, putAt, bnd, slD, List.getElem?_cons_zero, List.getElem?_cons_succ, dR_sl]) ?_
    · rw [Mem.push_old _ _ (by simp [Mem.kill_nxt]; omega), Mem.kill_other _ hoi]
      exact g1
    simp -implicitDefEqProofs (disch := first | assumption | (simp only [wnA]; done) | (simp only [wnA]; omega) | omega | fail) [wkA, retV, stabOk, dC, ev, fillD, pickCells, putAt, bnd, slD, List.getElem?_cons_zero, List.getElem?_cons_succ, dR_sl, Mem.cell, Mem.row, wmA]
    refine hq _ ?_
    refine ⟨((hold.kill fun b hb => (h7 b hb).1).push _).set h2 _, h2, by simp [Mem.kill_nxt]; omega, _, some m1.next, by simp, .inr rfl, ⟨by simp, ?_⟩, fun b hb => by cases hb; exact ⟨by rw [n1]; exact h1.1, by omega⟩⟩
    refine ⟨?_, by simp [Mem.kill_nxt]⟩
    rw [Mem.set_other _ _ (by omega)]
    simp [Mem.push_get, Mem.kill_nxt]
theorem c_BStringG {w0 : World} {base m : Mem} {i : Nat} {bs : List UInt8} {Q : Value → Mem → Prop} (h : BldG base m i bs) (hne : bs ≠ []) (hl : bs.length ≤ 140737488355328) (hq : ∀ m', Old base m' → Q (.string ⟨⟨bs⟩⟩) m') :
    AbC Tryz.prog w0 40 [.pointer (some ⟨i, 0, none⟩)] m Q := by
  obtain ⟨h1, h2, h3, pa, ob, h4, h5, h6, h7⟩ := h
  exact c_BString ⟨h1, h2, h3, pa, ob, h4, h5, h6, fun e => absurd e hne, h7⟩ hl hq
theorem c_Grow {w0 : World} {base m : Mem} {i n : Nat} {Q : Value → Mem → Prop} (h : Bld base m i []) (hn : n ≤ 140737488355328) (hq : ∀ m', BldG base m' i [] → Q (.tuple ⟨[]⟩) m') :
    AbC Tryz.prog w0 82 [.pointer (some ⟨i, 0, none⟩), .int .i64 (n : Int)] m Q := by
  refine AbC_fn ok82 (by simp) ?_
  obtain ⟨h1, h2, h3, pa, ob, h4, h5, h6, hz, h7⟩ := h
  have hob := hz rfl
  subst hob
  simp only [List.length_nil, slV] at h4
  have f1 : (0 : Int) ≤ (n : Int) := by omega
  simp -implicitDefEqProofs (disch := first | assumption | (simp only [wnA]; done) | (simp only [wnA]; omega) | omega | fail) [rc82, ro82, wkA, retV, stabOk, dC, ev, fillD, pickCells, putAt, bnd, slD, List.getElem?_cons_zero, List.getElem?_cons_succ, dR_sl, Mem.cell, Mem.row, wmA]
  refine c_copyCheck h4 h5 fun m1 n1 g1 o1 => ?_
  have hold : Old base m1 := ⟨by have := h1.1; omega, fun k hk => by rw [o1 _ (by omega), h1.2 k hk]⟩
  simp -implicitDefEqProofs (disch := first | assumption | (simp only [wnA]; done) | (simp only [wnA]; omega) | omega | fail) [wkA, retV, stabOk, dC, ev, fillD, pickCells, putAt, bnd, slD, List.getElem?_cons_zero, List.getElem?_cons_succ, dR_sl, Mem.cell, Mem.row, wmA, g1, ltF f1, rc82_0]
  by_cases h0 : n = 0
  · subst h0
    simp -implicitDefEqProofs (disch := first | assumption | (simp only [wnA]; done) | (simp only [wnA]; omega) | omega | fail) [wkA, retV, stabOk, dC, ev, fillD, pickCells, putAt, bnd, slD, List.getElem?_cons_zero, List.getElem?_cons_succ, dR_sl, Mem.cell, Mem.row, wmA, g1]
    exact hq m1 ⟨hold, h2, by omega, _, none, g1, .inr rfl, ⟨rfl, rfl⟩, fun b hb => by cases hb⟩
  · have f2 : (0 : Int) < (n : Int) := by omega
    have f3 : 0 < n := by omega
    have e0 : IntKind.i64.wrap 0 = 0 := w64 (by omega)
    have en : IntKind.i64.wrap (n : Int) = (n : Int) := w64 (by omega)
    simp -implicitDefEqProofs (disch := first | assumption | (simp only [wnA]; done) | (simp only [wnA]; omega) | omega | fail) [wkA, retV, stabOk, dC, ev, fillD, pickCells, putAt, bnd, slD, List.getElem?_cons_zero, List.getElem?_cons_succ, dR_sl, Mem.cell, Mem.row, wmA, g1, e0, ltT f2, f3]
    refine AbC_fn ok93 (by simp) ?_
    simp -implicitDefEqProofs (disch := first | assumption | (simp only [wnA]; done) | (simp only [wnA]; omega) | omega | fail) [rc93, ro93, wkA, retV, stabOk, dC, ev, fillD, pickCells, putAt, bnd, slD, List.getElem?_cons_zero, List.getElem?_cons_succ, dR_sl, Mem.cell, Mem.row, wmA, g1, e0, en]
    refine x_mnz xis105 hn ?_
    have hin : i ≠ m1.next := by omega
    have hsl0 : slW 1 (.slice (some ⟨m1.next, 0, none⟩) n 1) none (some (.int .i64 0)) = some (.slice (some ⟨m1.next, 0, none⟩) 0 1) := by simp [slW, dR, ev, bnd, slD]
    simp -implicitDefEqProofs (disch := first | assumption | (simp only [wnA]; done) | (simp only [wnA]; omega) | omega | fail) [wkA, retV, stabOk, dC, ev, fillD, pickCells, putAt, bnd, slD, List.getElem?_cons_zero, List.getElem?_cons_succ, dR_sl, Mem.cell, Mem.row, wmA, g1, e0, en, hsl0]
    simp only [SK, dE, ev, upd_at]
    simp -implicitDefEqProofs (disch := first | assumption | (simp only [wnA]; done) | (simp only [wnA]; omega) | omega | fail) [wkA, retV, stabOk, dC, ev, fillD, pickCells, putAt, bnd, slD, List.getElem?_cons_zero, List.getElem?_cons_succ, dR_sl, Mem.cell, Mem.row, wmA, elemsV, g1]
    refine SK_st (i := i) (o := 1) (by simp [wkA, retV, stabOk, dC, ev, fillD, pickCells, putAt, bnd, slD, List.getElem?_cons_zero, List.getElem?_cons_succ, dR_sl]) (e := 96) (cs := [.pointer (some ⟨i, 0, none⟩), .slice none 0 0]) ?_ (by simp) (by simp [wkA, retV, stabOk, dC, ev, fillD, pickCells, putAt, bnd, slD, List.getElem?_cons_zero, List.getElem?_cons_succ, dR_sl]) (by simp [wkA, retV, stabOk, dC, ev, fillD, pickCells, putAt, bnd, slD, List.getElem?_cons_zero, List.getElem?_cons_succ, dR_sl, oneC]) ?_
    · rw [Mem.set_other _ _ hin, Mem.push_old _ _ (by omega)]; exact g1
    simp -implicitDefEqProofs (disch := first | assumption | (simp only [wnA]; done) | (simp only [wnA]; omega) | omega | fail) [wkA, retV, stabOk, dC, ev, fillD, pickCells, putAt, bnd, slD, List.getElem?_cons_zero, List.getElem?_cons_succ, dR_sl, Mem.cell, Mem.row, wmA]
    refine hq _ ?_
    refine ⟨((hold.push _).set (by rw [n1]; exact h1.1) _).set h2 _, h2, by simp; omega, _, some m1.next, by simp [slV], .inr rfl, ⟨rfl, ?_, by simp⟩, fun b hb => by cases hb; exact ⟨by rw [n1]; exact h1.1, by omega⟩⟩
    rw [Mem.set_other _ _ (by omega)]
    simp
/-- Texts, one behind the other, with a text between. -/
def joinL (sep : List UInt8) : List ByteArray → List UInt8
  | [] => []
  | x :: r => x.data.toList ++ r.flatMap fun y => sep ++ y.data.toList
/-- How many bytes texts have. -/
def totL (xs : List ByteArray) : Nat := (xs.map ByteArray.size).sum
theorem totL_take (xs : List ByteArray) (j : Nat) : totL (xs.take j) ≤ totL xs := by
  induction xs generalizing j with
  | nil => simp [totL]
  | cons x xs ih =>
    cases j with
    | zero => simp [totL]
    | succ j => have := ih j; simp only [totL, List.take_succ_cons, List.map_cons, List.sum_cons] at this ⊢; omega
theorem totL_succ {xs : List ByteArray} {j : Nat} (h : j < xs.length) : totL (xs.take (j + 1)) = totL (xs.take j) + xs[j].size := by
  unfold totL
  rw [List.take_succ_eq_append_getElem h, List.map_append, List.sum_append]; simp
theorem flat_sep_len (sep : List UInt8) (xs : List ByteArray) : (xs.flatMap fun y => sep ++ y.data.toList).length = sep.length * xs.length + totL xs := by
  induction xs with
  | nil => simp [totL]
  | cons x xs ih => simp only [List.flatMap_cons, List.length_append, ih, totL, List.map_cons, List.sum_cons, List.length_cons, Nat.mul_add, ByteArray.size, Array.length_toList]; omega
theorem c_Join {w0 : World} {m : Mem} {v : Value} {xs : List ByteArray} {sep : ByteArray} {Q : Value → Mem → Prop} (hv : SlR m 1 v (xs.map .string) xs.length) (hvb : ∀ b, blk v = some b → b < m.next) (h2 : 2 ≤ xs.length) (hs : 0 < sep.size) (hl : (sep.size + 1) * xs.length + totL xs ≤ 140737488355328)
    (hq : ∀ m', Old m m' → Q (.string ⟨⟨joinL sep.data.toList xs⟩⟩) m') : AbC Tryz.prog w0 60 [v, .string sep] m Q := by
  refine AbC_fn ok60 (by simp) ?_
  have k0 : (xs.length : Int) ≠ 0 := by omega
  have k1 : (xs.length : Int) ≠ 1 := by omega
  have hsx : (sep.size + 1) * xs.length = sep.size * xs.length + xs.length := by rw [Nat.add_mul, Nat.one_mul]
  have hmul : sep.size * (xs.length - 1) + sep.size = sep.size * xs.length := by
    obtain ⟨n, hn⟩ : ∃ n, xs.length = n + 1 := ⟨xs.length - 1, by omega⟩
    rw [hn, Nat.add_sub_cancel, Nat.mul_add, Nat.mul_one]
  have hsl : sep.size ≤ sep.size * xs.length := Nat.le_mul_of_pos_right _ (by omega)
  have e1 : IntKind.i64.wrap ((xs.length : Int) - 1) = ((xs.length - 1 : Nat) : Int) := by rw [w64 (by omega)]; omega
  have q1 : dBin .quo (.int .i64 9223372036854775807) (.int .i64 ((xs.length - 1 : Nat) : Int)) = some (.int .i64 ((9223372036854775807 / (xs.length - 1) : Nat) : Int)) := by
    rw [dBin_quo (by omega)]
    have : (9223372036854775807 : Int).tdiv ((xs.length - 1 : Nat) : Int) = ((9223372036854775807 / (xs.length - 1) : Nat) : Int) := by
      rw [Int.tdiv_eq_ediv_of_nonneg (by omega)]; rfl
    have h9 := Nat.div_le_self 9223372036854775807 (xs.length - 1)
    rw [this]
    generalize 9223372036854775807 / (xs.length - 1) = D at *
    rw [w64 (by omega)]
  have q2 : (sep.size : Int) < ((9223372036854775807 / (xs.length - 1) : Nat) : Int) := by
    have : sep.size + 1 ≤ 9223372036854775807 / (xs.length - 1) := by
      rw [Nat.le_div_iff_mul_le (by omega), Nat.add_mul, Nat.one_mul]; omega
    omega
  have q3 : IntKind.i64.wrap ((sep.size : Int) * ((xs.length - 1 : Nat) : Int)) = ((sep.size * (xs.length - 1) : Nat) : Int) := by
    have : (sep.size : Int) * ((xs.length - 1 : Nat) : Int) = ((sep.size * (xs.length - 1) : Nat) : Int) := by simp
    rw [this]; exact w64 (by omega)
  have q4 : IntKind.i64.wrap ((sep.size * (xs.length - 1) : Nat) : Int) = ((sep.size * (xs.length - 1) : Nat) : Int) := w64 (by omega)
  have hs' : (0 : Int) < (sep.size : Int) := by omega
  generalize hP : sep.size * (xs.length - 1) = P at *
  generalize hD : 9223372036854775807 / (xs.length - 1) = D at *
  generalize hN1 : xs.length - 1 = N1 at *
  have q5 : ¬ D ≤ sep.size := by omega
  have q6 : (D ≤ sep.size) = False := eq_false q5
  simp -implicitDefEqProofs (disch := first | assumption | (simp only [wnA]; done) | (simp only [wnA]; omega) | omega | fail) [rc60, ro60, wkA, retV, stabOk, dC, ev, fillD, pickCells, putAt, bnd, slD, List.getElem?_cons_zero, List.getElem?_cons_succ, dR_sl, Mem.cell, Mem.row, wmA, hv.slen, beqF k0, beqF k1, rc60_7, gtT hs', hs, e1, q1, q6, q3, q4, decide_false, rc60_6]
  have hPt : P + totL xs ≤ 140737488355328 := by omega
  refine LoopW_of (fun k ts m' => ∃ j, j + k = xs.length ∧ m' = m ∧ ts 0 = v ∧ ts 1 = .string sep ∧ ts 5 = .int .i64 ((P + totL (xs.take j) : Nat) : Int) ∧ ts 39 = v ∧ ts 40 = .int .i64 (xs.length : Nat) ∧ ts 41 = .int .i64 (j : Nat)) xs.length ?_ ?_
  · exact ⟨0, by omega, rfl, by simp [frA_at], by simp [frA_at], by simp [totL], by simp [frA_at], by simp, by simp⟩
  · rintro k ts m1 K ⟨j, hj, rfl, t0, t1, t5, t39, t40, t41⟩ hK
    simp -implicitDefEqProofs (disch := first | assumption | (simp only [wnA]; done) | (simp only [wnA]; omega) | omega | fail) [rc60_1, wkA, retV, stabOk, dC, ev, fillD, pickCells, putAt, bnd, slD, List.getElem?_cons_zero, List.getElem?_cons_succ, dR_sl, Mem.cell, Mem.row, wmA, t40, t41]
    by_cases hjl : j < xs.length
    · obtain ⟨bi, bo, L, hvv, hL, hLl, -, hLc⟩ := hv.at hjl
      have hc := hLc 0 (by omega)
      simp only [Nat.mul_one, Nat.add_zero, List.getElem?_map, List.getElem?_eq_getElem hjl, Option.map_some] at hc
      obtain ⟨x, hx⟩ : ∃ x, xs[j] = x := ⟨_, rfl⟩
      have hts := totL_succ hjl
      have htk := totL_take xs (j + 1)
      rw [hx] at hc hts
      rw [hvv] at t39
      obtain ⟨hlt', hc'⟩ := List.getElem?_eq_some_iff.1 hc
      have hjw : IntKind.i64.wrap ((j : Int) + 1) = ((j + 1 : Nat) : Int) := by rw [w64 (by omega)]; omega
      have hsub : IntKind.i64.wrap (9223372036854775807 - ((P + totL (xs.take j) : Nat) : Int)) = 9223372036854775807 - ((P + totL (xs.take j) : Nat) : Int) := w64 (by omega)
      have hgt : (x.size : Int) ≤ 9223372036854775807 - ((P + totL (xs.take j) : Nat) : Int) := by omega
      have hadd : IntKind.i64.wrap (((P + totL (xs.take j) : Nat) : Int) + (x.size : Int)) = ((P + totL (xs.take (j + 1)) : Nat) : Int) := by rw [w64 (by omega)]; omega
      generalize hT : P + totL (xs.take j) = T at *
      simp -implicitDefEqProofs (disch := first | assumption | (simp only [wnA]; done) | (simp only [wnA]; omega) | omega | fail) [hjl, rc60_0, wkA, retV, stabOk, dC, ev, fillD, pickCells, putAt, bnd, slD, List.getElem?_cons_zero, List.getElem?_cons_succ, dR_sl, Mem.cell, Mem.row, wmA, t5, t39, t40, t41, sidx_at, hL, hc, hc', hsub, gtF hgt, hadd, hjw]
      exact hK (k - 1) _ _ (by omega) ⟨j + 1, by omega, rfl, by simp [t0], by simp [t1], by simp, by simp [t39, hvv], by simp [t40], by simp⟩
    · have hjj : j = xs.length := by omega
      subst hjj
      rw [List.take_length] at t5
      simp -implicitDefEqProofs (disch := first | assumption | (simp only [wnA]; done) | (simp only [wnA]; omega) | omega | fail) [hjl, rc60_5, wkA, retV, stabOk, dC, ev, fillD, pickCells, putAt, bnd, slD, List.getElem?_cons_zero, List.getElem?_cons_succ, dR_sl, Mem.cell, Mem.row, wmA, t5]
      refine c_Grow (Bld.new (Old.refl m1)) hPt fun m2 hb => ?_
      have hv2 : SlR m2 1 v (xs.map .string) xs.length := hv.keep fun b h => hb.1.2 b (hvb b h)
      obtain ⟨bi, bo, L, hvv, hL, hLl, -, hLc⟩ := hv2.at (j := 0) (by omega)
      have hc := hLc 0 (by omega)
      have h0l : 0 < xs.length := by omega
      simp only [Nat.mul_one, Nat.add_zero, List.getElem?_map, List.getElem?_eq_getElem h0l, Option.map_some] at hc
      obtain ⟨x, hx⟩ : ∃ x, xs[0] = x := ⟨_, rfl⟩
      obtain ⟨ys, hys⟩ : ∃ ys, xs = x :: ys := by
        cases xs with
        | nil => simp at h0l
        | cons a r => exact ⟨r, by simp at hx; rw [hx]⟩
      rw [hx] at hc
      obtain ⟨hlt', hc'⟩ := List.getElem?_eq_some_iff.1 hc
      have hs0 : sidx 1 v (.int .i64 0) = some (.pointer (some ⟨bi, bo, none⟩)) := by
        have := sidx_at (b := bi) (o := bo) (n := xs.length) (c := 1) (j := 0) (sz := 1) (k := .i64) h0l
        simpa [hvv] using this
      have hlen : xs.length = ys.length + 1 := by rw [hys]; rfl
      have htot : totL xs = x.size + totL ys := by rw [hys]; simp [totL]
      have hJ : joinL sep.data.toList xs = x.data.toList ++ ys.flatMap fun y => sep.data.toList ++ y.data.toList := by rw [hys]; rfl
      have hsz : x.data.toList.length = x.size := by simp
      simp -implicitDefEqProofs (disch := first | assumption | (simp only [wnA]; done) | (simp only [wnA]; omega) | omega | fail) [wkA, retV, stabOk, dC, ev, fillD, pickCells, putAt, bnd, slD, List.getElem?_cons_zero, List.getElem?_cons_succ, dR_sl, Mem.cell, Mem.row, wmA, t0, hs0, hL, hc, hc']
      refine c_WriteStringG hb (by simp; omega) fun m3 hb3 => ?_
      have hv3 : SlR m3 1 v (xs.map .string) xs.length := hv.keep fun b h => hb3.1.2 b (hvb b h)
      obtain ⟨v', sl1, sv', sb'⟩ := hv3.behind (k := 1) (by omega)
      have sl2 : slW 1 v (some (.int .i64 1)) none = some v' := by simpa using sl1
      have sv2 : SlR m3 1 v' (ys.map .string) ys.length := by
        rw [hys] at sv'; simpa using sv'
      simp -implicitDefEqProofs (disch := first | assumption | (simp only [wnA]; done) | (simp only [wnA]; omega) | omega | fail) [wkA, retV, stabOk, dC, ev, fillD, pickCells, putAt, bnd, slD, List.getElem?_cons_zero, List.getElem?_cons_succ, dR_sl, Mem.cell, Mem.row, wmA, t0, sl2, sv2.slen]
      refine LoopW_of (fun k ts m' => ∃ j, j + k = ys.length ∧ ts 1 = .string sep ∧ ts 8 = .pointer (some ⟨m1.next, 0, none⟩) ∧ ts 63 = v' ∧ ts 64 = .int .i64 (ys.length : Nat) ∧ ts 65 = .int .i64 (j : Nat) ∧
        BldG m1 m' m1.next (x.data.toList ++ (ys.take j).flatMap fun y => sep.data.toList ++ y.data.toList)) ys.length ?_ ?_
      · exact ⟨0, by omega, by simp [t1], by simp, by simp, by simp, by simp, by simpa using hb3⟩
      · rintro k' ts' m4 K' ⟨j, hj', s1, s8, s63, s64, s65, hb4⟩ hK'
        simp -implicitDefEqProofs (disch := first | assumption | (simp only [wnA]; done) | (simp only [wnA]; omega) | omega | fail) [rc60_3, wkA, retV, stabOk, dC, ev, fillD, pickCells, putAt, bnd, slD, List.getElem?_cons_zero, List.getElem?_cons_succ, dR_sl, Mem.cell, Mem.row, wmA, s64, s65]
        have hfl := flat_sep_len sep.data.toList (ys.take j)
        have htk := totL_take ys j
        have htl : (ys.take j).length = min j ys.length := List.length_take
        by_cases hjl2 : j < ys.length
        · have hv4 : SlR m4 1 v' (ys.map .string) ys.length := sv2.keep fun b h => by rw [hb4.1.2 b (hvb b (sb' b h)), hb3.1.2 b (hvb b (sb' b h))]
          obtain ⟨ci, co, Lc, hvv2, hL2, hLl2, -, hLc2⟩ := hv4.at hjl2
          have hd := hLc2 0 (by omega)
          simp only [Nat.mul_one, Nat.add_zero, List.getElem?_map, List.getElem?_eq_getElem hjl2, Option.map_some] at hd
          obtain ⟨y, hy⟩ : ∃ y, ys[j] = y := ⟨_, rfl⟩
          have hts := totL_succ hjl2
          have htk1 := totL_take ys (j + 1)
          rw [hy] at hd hts
          rw [hvv2] at s63
          obtain ⟨hlt2, hd'⟩ := List.getElem?_eq_some_iff.1 hd
          have hjw : IntKind.i64.wrap ((j : Int) + 1) = ((j + 1 : Nat) : Int) := by rw [w64 (by omega)]; omega
          have hnx : ((ys.take (j + 1)).flatMap fun y => sep.data.toList ++ y.data.toList) = ((ys.take j).flatMap fun y => sep.data.toList ++ y.data.toList) ++ (sep.data.toList ++ y.data.toList) := by
            rw [List.take_succ_eq_append_getElem hjl2, List.flatMap_append, hy]; simp
          have hm1 : sep.data.toList.length * (ys.take j).length ≤ sep.size * ys.length := by
            rw [show sep.data.toList.length = sep.size from by simp]
            exact Nat.mul_le_mul_left _ (by omega)
          have hm2 : sep.size * xs.length = sep.size * ys.length + sep.size := by rw [hlen, Nat.mul_add, Nat.mul_one]
          have hss : sep.data.toList.length = sep.size := by simp
          generalize ((ys.take j).flatMap fun y => sep.data.toList ++ y.data.toList) = B at *
          simp -implicitDefEqProofs (disch := first | assumption | (simp only [wnA]; done) | (simp only [wnA]; omega) | omega | fail) [hjl2, rc60_2, wkA, retV, stabOk, dC, ev, fillD, pickCells, putAt, bnd, slD, List.getElem?_cons_zero, List.getElem?_cons_succ, dR_sl, Mem.cell, Mem.row, wmA, s1, s8, s63, s64, s65, sidx_at, hL2, hd, hd']
          refine c_WriteStringG hb4 (by rw [List.length_append]; omega) fun m5 hb5 => ?_
          simp -implicitDefEqProofs (disch := first | assumption | (simp only [wnA]; done) | (simp only [wnA]; omega) | omega | fail) [wkA, retV, stabOk, dC, ev, fillD, pickCells, putAt, bnd, slD, List.getElem?_cons_zero, List.getElem?_cons_succ, dR_sl, Mem.cell, Mem.row, wmA, s1, s8, s63, s64, s65]
          refine c_WriteStringG hb5 (by rw [List.length_append, List.length_append]; omega) fun m6 hb6 => ?_
          simp -implicitDefEqProofs (disch := first | assumption | (simp only [wnA]; done) | (simp only [wnA]; omega) | omega | fail) [wkA, retV, stabOk, dC, ev, fillD, pickCells, putAt, bnd, slD, List.getElem?_cons_zero, List.getElem?_cons_succ, dR_sl, Mem.cell, Mem.row, wmA, s1, s8, s63, s64, s65, hjw]
          exact hK' (k' - 1) _ _ (by omega) ⟨j + 1, by omega, by simp [s1], by simp [s8], by simp [s63, hvv2], by simp [s64], by simp, by rw [hnx]; simpa using hb6⟩
        · have hjj : j = ys.length := by omega
          subst hjj
          rw [List.take_length] at hb4 hfl
          simp -implicitDefEqProofs (disch := first | assumption | (simp only [wnA]; done) | (simp only [wnA]; omega) | omega | fail) [hjl2, rc60_4, wkA, retV, stabOk, dC, ev, fillD, pickCells, putAt, bnd, slD, List.getElem?_cons_zero, List.getElem?_cons_succ, dR_sl, Mem.cell, Mem.row, wmA, s8]
          refine c_BStringG hb4 ?_ ?_ fun m5 ho => ?_
          · intro e
            have := congrArg List.length e
            simp only [List.length_append, hfl, List.length_nil] at this
            have h9 : 1 ≤ sep.data.toList.length * ys.length := Nat.mul_pos (by simpa using hs) (by omega)
            omega
          · rw [List.length_append, hfl, show sep.data.toList.length = sep.size from by simp]
            have hm2 : sep.size * xs.length = sep.size * ys.length + sep.size := by rw [hlen, Nat.mul_add, Nat.mul_one]
            omega
          · simp -implicitDefEqProofs (disch := first | assumption | (simp only [wnA]; done) | (simp only [wnA]; omega) | omega | fail) [wkA, retV, stabOk, dC, ev, fillD, pickCells, putAt, bnd, slD, List.getElem?_cons_zero, List.getElem?_cons_succ, dR_sl, Mem.cell, Mem.row, wmA]
            rw [← hJ]
            exact hq m5 ho
end Go.Proofs.YtjlicambfepfiaaGreatDoor.Ab

set_option linter.unusedVariables false
set_option linter.unusedSimpArgs false
namespace Go.Proofs.YtjlicambfepfiaaGreatDoor.Ab
open Go Go.RowKit
set_option maxHeartbeats 4000000
set_option maxRecDepth 100000
def lowN (c : UInt8) : Nat := Nat.lor c.toNat 32
def dgt (c : UInt8) : Option Nat := if 48 ≤ c.toNat ∧ c.toNat ≤ 57 then some (c.toNat - 48) else if 97 ≤ lowN c ∧ lowN c ≤ 122 then some (lowN c - 97 + 10) else none
def puStep (B M n : Nat) (c : UInt8) : Option Nat := match dgt c with
  | some d => if d < B ∧ n * B + d ≤ M then some (n * B + d) else none
  | none => none
/-- What a text's number is, up to M. -/
def puL (B M : Nat) : Nat → List UInt8 → Option Nat
  | n, [] => some n
  | n, c :: l => match puStep B M n c with
    | some n' => puL B M n' l
    | none => none
theorem lowN_lt (c : UInt8) : lowN c < 256 := by
  have h1 : c.toNat < 2 ^ 8 := c.toNat_lt
  have : c.toNat ||| 32 < 2 ^ 8 := Nat.or_lt_two_pow h1 (by omega)
  exact this
theorem dOr32 (c : UInt8) : dBin .or (.int .u8 (c.toNat : Int)) (.int .u8 32) = some (.int .u8 ((lowN c : Nat) : Int)) := by
  have h1 : c.toNat < 256 := c.toNat_lt
  have h2 := binI_eq (op := .or) (k := .u8) (a := Int.ofNat c.toNat) (b := Int.ofNat 32) (v := .int .u8 (IntKind.u8.wrap (Int.ofNat (Nat.lor c.toNat 32)))) (by
    simp only [binI, bitI]
    rw [blt_true.2 (show c.toNat < kTop .u8 by simpa [kTop] using h1), blt_true.2 (show 32 < kTop .u8 by simp [kTop])]
    simp only [wrapF_eq])
  have h3 : IntKind.u8.wrap (Int.ofNat (Nat.lor c.toNat 32)) = ((lowN c : Nat) : Int) := by
    have := lowN_lt c
    rw [IntKind.wrap_u8]
    show ((lowN c : Nat) : Int) % 256 = _
    omega
  rw [h3] at h2
  exact h2
theorem c_lower {w0 : World} {m : Mem} {c : UInt8} {Q : Value → Mem → Prop} (hq : Q (.int .u8 ((lowN c : Nat) : Int)) m) : AbC Tryz.prog w0 111 [.int .u8 (c.toNat : Int)] m Q := by
  refine AbC_fn ok111 (by simp) ?_
  simp -implicitDefEqProofs (disch := first | assumption | (simp only [wnA]; done) | (simp only [wnA]; omega) | omega | fail) [rc111, ro111, wkA, retV, stabOk, dC, ev, fillD, pickCells, putAt, bnd, slD, List.getElem?_cons_zero, List.getElem?_cons_succ, dR_sl, Mem.cell, Mem.row, wmA, dOr32]
  exact hq
theorem w_PUtail {w0 : World} {Q : AQ} {ts : Fr} {m : Mem} {B M n d C : Nat} (hC : 18446744073709551616 ≤ C * B ∧ (C - 1) * B ≤ 18446744073709551615 ∧ 1 ≤ C) (hB : 2 ≤ B ∧ B ≤ 36) (hM : n ≤ M ∧ M ≤ 18446744073709551615) (hd : d < 256)
    (t1 : ts 1 = .int .i64 (B : Int)) (t10 : ts 10 = .int .u64 (C : Int)) (t11 : ts 11 = .int .u64 (M : Int)) (t13 : ts 13 = .int .u64 (n : Int)) (t16 : ts 16 = .int .u8 (d : Int))
    (he : ∀ ts' v c, ts' 6 = .int .u64 v → ts' 7 = .iface 204 (.int .i64 c) → (c = 1 ∨ c = 2) → (c = 1 → v = (M : Int)) → ¬ (d < B ∧ n * B + d ≤ M) → Q .ret ts' m)
    (hq : ∀ ts', ts' 1 = ts 1 → ts' 8 = ts 8 → ts' 10 = ts 10 → ts' 11 = ts 11 → ts' 12 = ts 12 → ts' 99 = ts 99 → ts' 100 = ts 100 → ts' 101 = ts 101 → ts' 13 = .int .u64 ((n * B + d : Nat) : Int) → d < B → n * B + d ≤ M → Q .normal ts' m) :
    AbW Tryz.prog w0 rc101_2 Q ts m := by
  have wB8 : IntKind.u8.wrap (B : Int) = (B : Int) := by rw [IntKind.wrap_u8]; omega
  have wB64 : IntKind.u64.wrap (B : Int) = (B : Int) := IntWalk.u64_in _ (by omega)
  have wd64 : IntKind.u64.wrap (d : Int) = (d : Int) := IntWalk.u64_in _ (by omega)
  simp -implicitDefEqProofs (disch := first | assumption | (simp only [wnA]; done) | (simp only [wnA]; omega) | omega | fail) [rc101_2, wkA, retV, stabOk, dC, ev, fillD, pickCells, putAt, bnd, slD, List.getElem?_cons_zero, List.getElem?_cons_succ, dR_sl, Mem.cell, Mem.row, wmA, t1, t16, wB8]
  by_cases h1 : B ≤ d
  · simp -implicitDefEqProofs (disch := first | assumption | (simp only [wnA]; done) | (simp only [wnA]; omega) | omega | fail) [wkA, retV, stabOk, dC, ev, fillD, pickCells, putAt, bnd, slD, List.getElem?_cons_zero, List.getElem?_cons_succ, dR_sl, Mem.cell, Mem.row, wmA, h1]
    exact he _ 0 2 (by simp) (by simp) (.inr rfl) (fun h => absurd h (by decide)) (by omega)
  · simp -implicitDefEqProofs (disch := first | assumption | (simp only [wnA]; done) | (simp only [wnA]; omega) | omega | fail) [wkA, retV, stabOk, dC, ev, fillD, pickCells, putAt, bnd, slD, List.getElem?_cons_zero, List.getElem?_cons_succ, dR_sl, Mem.cell, Mem.row, wmA, h1, rc101_1, t10, t13]
    by_cases h2 : C ≤ n
    · simp -implicitDefEqProofs (disch := first | assumption | (simp only [wnA]; done) | (simp only [wnA]; omega) | omega | fail) [wkA, retV, stabOk, dC, ev, fillD, pickCells, putAt, bnd, slD, List.getElem?_cons_zero, List.getElem?_cons_succ, dR_sl, Mem.cell, Mem.row, wmA, h2, t11]
      refine he _ (M : Int) 1 (by simp) (by simp) (.inl rfl) (fun _ => rfl) ?_
      intro h3
      have h5 : C * B ≤ n * B := Nat.mul_le_mul_right _ h2
      omega
    · have h4 : n ≤ C - 1 := by omega
      have h5 : n * B ≤ (C - 1) * B := Nat.mul_le_mul_right _ h4
      have h6 := hC.2.1
      have w1 : IntKind.u64.wrap ((n : Int) * (B : Int)) = ((n * B : Nat) : Int) := by
        rw [← Int.natCast_mul]; exact IntWalk.u64_in _ (by omega)
      have w1' : IntKind.u64.wrap ((n * B : Nat) : Int) = ((n * B : Nat) : Int) := IntWalk.u64_in _ (by omega)
      generalize hX : n * B = X at *
      simp -implicitDefEqProofs (disch := first | assumption | (simp only [wnA]; done) | (simp only [wnA]; omega) | omega | fail) [wkA, retV, stabOk, dC, ev, fillD, pickCells, putAt, bnd, slD, List.getElem?_cons_zero, List.getElem?_cons_succ, dR_sl, Mem.cell, Mem.row, wmA, h2, rc101_0, t1, t13, t16, wB64, w1, wd64]
      by_cases h7 : X + d ≤ 18446744073709551615
      · have w2 : IntKind.u64.wrap ((X : Int) + (d : Int)) = ((X + d : Nat) : Int) := by rw [IntWalk.u64_in _ (by omega)]; omega
        have h8 : ¬ X + d < X := by omega
        by_cases h9 : X + d ≤ M
        · have h10 : ¬ M < X + d := by omega
          have h11 : ¬ ((M : Int) < (X : Int) + (d : Int)) := by omega
          have h12 : ¬ ((X : Int) + (d : Int) < (X : Int)) := by omega
          simp -implicitDefEqProofs (disch := first | assumption | (simp only [wnA]; done) | (simp only [wnA]; omega) | omega | fail) [wkA, retV, stabOk, dC, ev, fillD, pickCells, putAt, bnd, slD, List.getElem?_cons_zero, List.getElem?_cons_succ, dR_sl, Mem.cell, Mem.row, wmA, w2, h8, h10, h11, h12, t11]
          exact hq _ (by simp) (by simp) (by simp) (by simp) (by simp) (by simp) (by simp) (by simp) (by simp) (by omega) h9
        · have h10 : M < X + d := by omega
          have h11 : (M : Int) < (X : Int) + (d : Int) := by omega
          have h12 : ¬ ((X : Int) + (d : Int) < (X : Int)) := by omega
          simp -implicitDefEqProofs (disch := first | assumption | (simp only [wnA]; done) | (simp only [wnA]; omega) | omega | fail) [wkA, retV, stabOk, dC, ev, fillD, pickCells, putAt, bnd, slD, List.getElem?_cons_zero, List.getElem?_cons_succ, dR_sl, Mem.cell, Mem.row, wmA, w2, h8, h10, h11, h12, t11]
          exact he _ (M : Int) 1 (by simp) (by simp) (.inl rfl) (fun _ => rfl) (by omega)
      · obtain ⟨Y, hY⟩ := Nat.exists_eq_add_of_le (show 18446744073709551616 ≤ X + d by omega)
        have h12 : (Y : Int) < (X : Int) := by omega
        have h8 : Y < X := by omega
        have w2 : IntKind.u64.wrap ((X : Int) + (d : Int)) = (Y : Int) := by
          have e : (X : Int) + (d : Int) = 18446744073709551616 + (Y : Int) := by omega
          rw [e]
          simp only [IntKind.wrap, IntKind.bits, IntKind.signed]
          simp
          omega
        simp -implicitDefEqProofs (disch := first | assumption | (simp only [wnA]; done) | (simp only [wnA]; omega) | omega | fail) [wkA, retV, stabOk, dC, ev, fillD, pickCells, putAt, bnd, slD, List.getElem?_cons_zero, List.getElem?_cons_succ, dR_sl, Mem.cell, Mem.row, wmA, w2, h8, h12, t11]
        exact he _ (M : Int) 1 (by simp) (by simp) (.inl rfl) (fun _ => rfl) (by omega)
theorem w_PUloop {w0 : World} {Q : AQ} {ts : Fr} {m : Mem} {B M bits C : Nat} {s : ByteArray} (hC : 18446744073709551616 ≤ C * B ∧ (C - 1) * B ≤ 18446744073709551615 ∧ 1 ≤ C) (hB : B = 8 ∨ B = 10 ∨ B = 16) (hM : (bits = 32 ∧ M = 4294967295) ∨ (bits = 64 ∧ M = 18446744073709551615)) (hs : s.size ≤ 140737488355328)
    (t0 : ts 0 = .string s) (t1 : ts 1 = .int .i64 (B : Int)) (t2 : ts 2 = .int .i64 (bits : Int)) (t8 : ts 8 = .bool false) (t10 : ts 10 = .int .u64 (C : Int))
    (he : ∀ ts' m' v c, Old m m' → ts' 6 = .int .u64 v → ts' 7 = .iface 204 (.int .i64 c) → (c = 1 ∨ c = 2) → (c = 1 → v = (M : Int)) → puL B M 0 s.data.toList = none → Q .ret ts' m')
    (hq : ∀ ts' m' v, Old m m' → ts' 6 = .int .u64 ((v : Nat) : Int) → ts' 7 = .nilIface → puL B M 0 s.data.toList = some v → Q .ret ts' m') :
    AbW Tryz.prog w0 rc101_7 Q ts m := by
  have hBr : 2 ≤ B ∧ B ≤ 36 := by omega
  have hMr : M ≤ 18446744073709551615 := by omega
  have sh : dBin .shl (.int .u64 1) (.int .u64 (bits : Int)) = some (.int .u64 (IntKind.u64.wrap ((M : Int) + 1))) := by
    rcases hM with ⟨rfl, rfl⟩ | ⟨rfl, rfl⟩ <;> rfl
  have wbits : IntKind.u64.wrap (bits : Int) = (bits : Int) := IntWalk.u64_in _ (by omega)
  have wM : IntKind.u64.wrap (IntKind.u64.wrap ((M : Int) + 1) - 1) = (M : Int) := by
    rcases hM with ⟨rfl, rfl⟩ | ⟨rfl, rfl⟩ <;> rfl
  simp -implicitDefEqProofs (disch := first | assumption | (simp only [wnA]; done) | (simp only [wnA]; omega) | omega | fail) [rc101_7, wkA, retV, stabOk, dC, ev, fillD, pickCells, putAt, bnd, slD, List.getElem?_cons_zero, List.getElem?_cons_succ, dR_sl, Mem.cell, Mem.row, wmA, t0, t2, sh, wbits, wM]
  rw [SK_s2b (s := s) (by simp [wkA, retV, stabOk, dC, ev, fillD, pickCells, putAt, bnd, slD, List.getElem?_cons_zero, List.getElem?_cons_succ, dR_sl]) hs]
  simp -implicitDefEqProofs (disch := first | assumption | (simp only [wnA]; done) | (simp only [wnA]; omega) | omega | fail) [wkA, retV, stabOk, dC, ev, fillD, pickCells, putAt, bnd, slD, List.getElem?_cons_zero, List.getElem?_cons_succ, dR_sl, Mem.cell, Mem.row, wmA]
  have o1 : Old m (m.push (.own (s.data.toList.map byteV) 5)) := (Old.refl m).push _
  have g1 : (m.push (.own (s.data.toList.map byteV) 5)).get m.next = .own (s.data.toList.map byteV) 5 := by simp
  generalize m.push (.own (s.data.toList.map byteV) 5) = m1 at *
  have hsz : s.data.toList.length = s.size := by simp
  refine LoopW_of (fun k ts' m' => ∃ j n, j + k = s.size ∧ m' = m1 ∧ ts' 1 = .int .i64 (B : Int) ∧ ts' 8 = .bool false ∧ ts' 10 = .int .u64 (C : Int) ∧ ts' 11 = .int .u64 (M : Int) ∧ ts' 12 = .bool false ∧ ts' 13 = .int .u64 ((n : Nat) : Int) ∧
    ts' 99 = .slice (some ⟨m.next, 0, none⟩) s.size 1 ∧ ts' 100 = .int .i64 (s.size : Nat) ∧ ts' 101 = .int .i64 (j : Nat) ∧ n ≤ M ∧ puL B M 0 s.data.toList = puL B M n (s.data.toList.drop j)) s.size ?_ ?_
  · exact ⟨0, 0, by omega, rfl, by simp [t1], by simp [t8], by simp [t10], by simp, by simp, by simp, by simp, by simp, by simp, by omega, by simp⟩
  · rintro k ts' m2 K ⟨j, n, hj, rfl, s1, s8, s10, s11, s12, s13, s99, s100, s101, hn, hpu⟩ hK
    simp -implicitDefEqProofs (disch := first | assumption | (simp only [wnA]; done) | (simp only [wnA]; omega) | omega | fail) [rc101_4, wkA, retV, stabOk, dC, ev, fillD, pickCells, putAt, bnd, slD, List.getElem?_cons_zero, List.getElem?_cons_succ, dR_sl, Mem.cell, Mem.row, wmA, s100, s101]
    by_cases hjl : j < s.size
    · have hjl' : j < s.data.toList.length := by omega
      obtain ⟨c, hc⟩ : ∃ c, s.data.toList[j] = c := ⟨_, rfl⟩
      have hat : (s.data.toList.map byteV)[j]? = some (byteV c) := by rw [List.getElem?_map, List.getElem?_eq_getElem hjl', hc]; rfl
      obtain ⟨hlt', hat'⟩ := List.getElem?_eq_some_iff.1 hat
      have hdr : s.data.toList.drop j = c :: s.data.toList.drop (j + 1) := by rw [List.drop_eq_getElem_cons hjl', hc]
      have hjw : IntKind.i64.wrap ((j : Int) + 1) = ((j + 1 : Nat) : Int) := by rw [w64 (by omega)]; omega
      have hcl : c.toNat < 256 := c.toNat_lt
      rw [hdr] at hpu
      have bad : puStep B M n c = none → puL B M 0 s.data.toList = none := fun h => by rw [hpu]; simp [puL, h]
      have good : ∀ n', puStep B M n c = some n' → puL B M 0 s.data.toList = puL B M n' (s.data.toList.drop (j + 1)) := fun n' h => by rw [hpu]; simp [puL, h]
      generalize s.data.toList.map byteV = row at *
      have tail : ∀ (ts2 : Fr) (d : Nat), dgt c = some d → d < 256 → ∀ {Q2 : AQ}, (∀ ts' m', Q2 .ret ts' m' = Q .ret ts' m') → (∀ ts', ts' 1 = ts2 1 → ts' 8 = ts2 8 → ts' 10 = ts2 10 → ts' 11 = ts2 11 → ts' 12 = ts2 12 → ts' 99 = ts2 99 → ts' 100 = ts2 100 → ts' 101 = ts2 101 → ts' 13 = .int .u64 ((n * B + d : Nat) : Int) → n * B + d ≤ M → puStep B M n c = some (n * B + d) → Q2 .normal ts' m2) →
          ts2 1 = .int .i64 (B : Int) → ts2 10 = .int .u64 (C : Int) → ts2 11 = .int .u64 (M : Int) → ts2 13 = .int .u64 (n : Int) → ts2 16 = .int .u8 (d : Int) → AbW Tryz.prog w0 rc101_2 Q2 ts2 m2 := by
        intro ts2 d hdg hd Q2 hr hq2 u1 u10 u11 u13 u16
        refine w_PUtail hC hBr ⟨hn, hMr⟩ hd u1 u10 u11 u13 u16 (fun ts' v c' h6 h7 hc' hv' hno => ?_) fun ts' r1 r8 r10 r11 r12 r99 r100 r101 r13 hdB hle => ?_
        · rw [hr]
          refine he ts' m2 v c' o1 h6 h7 hc' hv' (bad ?_)
          simp only [puStep, hdg]
          rw [if_neg hno]
        · exact hq2 ts' r1 r8 r10 r11 r12 r99 r100 r101 r13 hle (by simp only [puStep, hdg]; rw [if_pos ⟨hdB, hle⟩])
      have fin : ∀ (ts' : Fr) (d : Nat), ts' 1 = .int .i64 (B : Int) → ts' 8 = .bool false → ts' 10 = .int .u64 (C : Int) → ts' 11 = .int .u64 (M : Int) → ts' 12 = .bool false → ts' 99 = .slice (some ⟨m.next, 0, none⟩) s.size 1 → ts' 100 = .int .i64 (s.size : Nat) → ts' 101 = .int .i64 ((j + 1 : Nat) : Int) → ts' 13 = .int .u64 ((n * B + d : Nat) : Int) → n * B + d ≤ M → puStep B M n c = some (n * B + d) → K ts' m2 := fun ts' d r1 r8 r10 r11 r12 r99 r100 r101 r13 hle hp =>
        hK (k - 1) ts' m2 (by omega) ⟨j + 1, n * B + d, by omega, rfl, r1, r8, r10, r11, r12, r13, r99, r100, r101, hle, good _ hp⟩
      by_cases h95 : c.toNat = 95
      · have q1 : ((c.toNat : Int) == 95) = true := by simp [h95]
        have q3 : dgt c = none := by
          have hc95 : c = 95 := UInt8.toNat_inj.1 h95
          rw [hc95]; decide
        have q4 : lowN c = 127 := by
          have hc95 : c = 95 := UInt8.toNat_inj.1 h95
          rw [hc95]; decide
        have q5 : (48 : Int) ≤ (c.toNat : Int) := by omega
        have q2 : ¬ (c.toNat : Int) ≤ 57 := by omega
        simp -implicitDefEqProofs (disch := first | assumption | (simp only [wnA]; done) | (simp only [wnA]; omega) | omega | fail) [hjl, rc101_3, wkA, retV, stabOk, dC, ev, fillD, pickCells, putAt, bnd, slD, List.getElem?_cons_zero, List.getElem?_cons_succ, dR_sl, Mem.cell, Mem.row, wmA, s8, s99, s101, sidx_at, g1, hat, hat', byteV, q1, q2, q5]
        refine c_lower ?_
        simp -implicitDefEqProofs (disch := first | assumption | (simp only [wnA]; done) | (simp only [wnA]; omega) | omega | fail) [wkA, retV, stabOk, dC, ev, fillD, pickCells, putAt, bnd, slD, List.getElem?_cons_zero, List.getElem?_cons_succ, dR_sl, Mem.cell, Mem.row, wmA, q4]
        refine c_lower ?_
        simp -implicitDefEqProofs (disch := first | assumption | (simp only [wnA]; done) | (simp only [wnA]; omega) | omega | fail) [wkA, retV, stabOk, dC, ev, fillD, pickCells, putAt, bnd, slD, List.getElem?_cons_zero, List.getElem?_cons_succ, dR_sl, Mem.cell, Mem.row, wmA, q4]
        exact he _ m2 0 2 o1 (by simp) (by simp) (.inr rfl) (fun h => absurd h (by decide)) (bad (by simp [puStep, q3]))
      · have q1 : ((c.toNat : Int) == 95) = false := by simp; omega
        by_cases h48 : 48 ≤ c.toNat ∧ c.toNat ≤ 57
        · have hd : dgt c = some (c.toNat - 48) := by simp [dgt, h48]
          have i48 : (48 : Int) ≤ (c.toNat : Int) ∧ (c.toNat : Int) ≤ 57 := by omega
          have w8 : IntKind.u8.wrap ((c.toNat : Int) - 48) = ((c.toNat - 48 : Nat) : Int) := by rw [IntKind.wrap_u8]; omega
          simp -implicitDefEqProofs (disch := first | assumption | (simp only [wnA]; done) | (simp only [wnA]; omega) | omega | fail) [hjl, rc101_3, wkA, retV, stabOk, dC, ev, fillD, pickCells, putAt, bnd, slD, List.getElem?_cons_zero, List.getElem?_cons_succ, dR_sl, Mem.cell, Mem.row, wmA, s8, s99, s101, sidx_at, g1, hat, hat', byteV, q1, i48, w8]
          refine tail _ (c.toNat - 48) hd (by omega) ?_ ?_ ?_ ?_ ?_ ?_ ?_
          · intro ts3 m3; simp -implicitDefEqProofs (disch := first | assumption | (simp only [wnA]; done) | (simp only [wnA]; omega) | omega | fail) [wkA, retV, stabOk, dC, ev, fillD, pickCells, putAt, bnd, slD, List.getElem?_cons_zero, List.getElem?_cons_succ, dR_sl, Mem.cell, Mem.row, wmA]
          · intro ts3 r1 r8 r10 r11 r12 r99 r100 r101 r13 hle hp
            simp at r1 r8 r10 r11 r12 r99 r100 r101
            simp -implicitDefEqProofs (disch := first | assumption | (simp only [wnA]; done) | (simp only [wnA]; omega) | omega | fail) [wkA, retV, stabOk, dC, ev, fillD, pickCells, putAt, bnd, slD, List.getElem?_cons_zero, List.getElem?_cons_succ, dR_sl, Mem.cell, Mem.row, wmA, r101, s101, hjw]
            exact fin _ (c.toNat - 48) (by simp [r1, s1]) (by simp [r8, s8]) (by simp [r10, s10]) (by simp [r11, s11]) (by simp [r12, s12]) (by simp [r99, s99]) (by simp [r100, s100]) (by simp) (by simp [r13]) hle hp
          · simp [s1]
          · simp [s10]
          · simp [s11]
          · simp [s13]
          · simp
        · by_cases h97 : 97 ≤ lowN c ∧ lowN c ≤ 122
          · have hd : dgt c = some (lowN c - 97 + 10) := by simp only [dgt]; rw [if_neg h48, if_pos h97]
            have w8 : IntKind.u8.wrap (((lowN c : Nat) : Int) - 97) = ((lowN c - 97 : Nat) : Int) := by rw [IntKind.wrap_u8]; omega
            have w8' : IntKind.u8.wrap (((lowN c - 97 : Nat) : Int) + 10) = ((lowN c - 97 + 10 : Nat) : Int) := by rw [IntKind.wrap_u8]; omega
            have i97 : (97 : Int) ≤ ((lowN c : Nat) : Int) ∧ ((lowN c : Nat) : Int) ≤ 122 := by omega
            generalize hlo : lowN c = lo at *
            have cl : ∀ {R : Value → Mem → Prop}, R (.int .u8 ((lo : Nat) : Int)) m2 → AbC Tryz.prog w0 111 [.int .u8 (c.toNat : Int)] m2 R := fun h => c_lower (by rw [hlo]; exact h)
            generalize hE : lo - 97 = e at *
            by_cases h48a : (48 : Int) ≤ (c.toNat : Int)
            · have h57 : ¬ (c.toNat : Int) ≤ 57 := by omega
              simp -implicitDefEqProofs (disch := first | assumption | (simp only [wnA]; done) | (simp only [wnA]; omega) | omega | fail) [hjl, rc101_3, wkA, retV, stabOk, dC, ev, fillD, pickCells, putAt, bnd, slD, List.getElem?_cons_zero, List.getElem?_cons_succ, dR_sl, Mem.cell, Mem.row, wmA, s8, s99, s101, sidx_at, g1, hat, hat', byteV, q1, h48a, h57]
              refine cl ?_
              simp -implicitDefEqProofs (disch := first | assumption | (simp only [wnA]; done) | (simp only [wnA]; omega) | omega | fail) [wkA, retV, stabOk, dC, ev, fillD, pickCells, putAt, bnd, slD, List.getElem?_cons_zero, List.getElem?_cons_succ, dR_sl, Mem.cell, Mem.row, wmA, i97]
              refine cl ?_
              simp -implicitDefEqProofs (disch := first | assumption | (simp only [wnA]; done) | (simp only [wnA]; omega) | omega | fail) [wkA, retV, stabOk, dC, ev, fillD, pickCells, putAt, bnd, slD, List.getElem?_cons_zero, List.getElem?_cons_succ, dR_sl, Mem.cell, Mem.row, wmA, i97]
              refine cl ?_
              simp -implicitDefEqProofs (disch := first | assumption | (simp only [wnA]; done) | (simp only [wnA]; omega) | omega | fail) [wkA, retV, stabOk, dC, ev, fillD, pickCells, putAt, bnd, slD, List.getElem?_cons_zero, List.getElem?_cons_succ, dR_sl, Mem.cell, Mem.row, wmA, w8, w8']
              refine tail _ (e + 10) hd (by omega) ?_ ?_ ?_ ?_ ?_ ?_ ?_
              · intro ts3 m3; simp -implicitDefEqProofs (disch := first | assumption | (simp only [wnA]; done) | (simp only [wnA]; omega) | omega | fail) [wkA, retV, stabOk, dC, ev, fillD, pickCells, putAt, bnd, slD, List.getElem?_cons_zero, List.getElem?_cons_succ, dR_sl, Mem.cell, Mem.row, wmA]
              · intro ts3 r1 r8 r10 r11 r12 r99 r100 r101 r13 hle hp
                simp at r1 r8 r10 r11 r12 r99 r100 r101
                simp -implicitDefEqProofs (disch := first | assumption | (simp only [wnA]; done) | (simp only [wnA]; omega) | omega | fail) [wkA, retV, stabOk, dC, ev, fillD, pickCells, putAt, bnd, slD, List.getElem?_cons_zero, List.getElem?_cons_succ, dR_sl, Mem.cell, Mem.row, wmA, r101, s101, hjw]
                exact fin _ (e + 10) (by simp [r1, s1]) (by simp [r8, s8]) (by simp [r10, s10]) (by simp [r11, s11]) (by simp [r12, s12]) (by simp [r99, s99]) (by simp [r100, s100]) (by simp) (by simp [r13]) hle hp
              · simp [s1]
              · simp [s10]
              · simp [s11]
              · simp [s13]
              · simp
            · simp -implicitDefEqProofs (disch := first | assumption | (simp only [wnA]; done) | (simp only [wnA]; omega) | omega | fail) [hjl, rc101_3, wkA, retV, stabOk, dC, ev, fillD, pickCells, putAt, bnd, slD, List.getElem?_cons_zero, List.getElem?_cons_succ, dR_sl, Mem.cell, Mem.row, wmA, s8, s99, s101, sidx_at, g1, hat, hat', byteV, q1, h48a]
              refine cl ?_
              simp -implicitDefEqProofs (disch := first | assumption | (simp only [wnA]; done) | (simp only [wnA]; omega) | omega | fail) [wkA, retV, stabOk, dC, ev, fillD, pickCells, putAt, bnd, slD, List.getElem?_cons_zero, List.getElem?_cons_succ, dR_sl, Mem.cell, Mem.row, wmA, i97]
              refine cl ?_
              simp -implicitDefEqProofs (disch := first | assumption | (simp only [wnA]; done) | (simp only [wnA]; omega) | omega | fail) [wkA, retV, stabOk, dC, ev, fillD, pickCells, putAt, bnd, slD, List.getElem?_cons_zero, List.getElem?_cons_succ, dR_sl, Mem.cell, Mem.row, wmA, i97]
              refine cl ?_
              simp -implicitDefEqProofs (disch := first | assumption | (simp only [wnA]; done) | (simp only [wnA]; omega) | omega | fail) [wkA, retV, stabOk, dC, ev, fillD, pickCells, putAt, bnd, slD, List.getElem?_cons_zero, List.getElem?_cons_succ, dR_sl, Mem.cell, Mem.row, wmA, w8, w8']
              refine tail _ (e + 10) hd (by omega) ?_ ?_ ?_ ?_ ?_ ?_ ?_
              · intro ts3 m3; simp -implicitDefEqProofs (disch := first | assumption | (simp only [wnA]; done) | (simp only [wnA]; omega) | omega | fail) [wkA, retV, stabOk, dC, ev, fillD, pickCells, putAt, bnd, slD, List.getElem?_cons_zero, List.getElem?_cons_succ, dR_sl, Mem.cell, Mem.row, wmA]
              · intro ts3 r1 r8 r10 r11 r12 r99 r100 r101 r13 hle hp
                simp at r1 r8 r10 r11 r12 r99 r100 r101
                simp -implicitDefEqProofs (disch := first | assumption | (simp only [wnA]; done) | (simp only [wnA]; omega) | omega | fail) [wkA, retV, stabOk, dC, ev, fillD, pickCells, putAt, bnd, slD, List.getElem?_cons_zero, List.getElem?_cons_succ, dR_sl, Mem.cell, Mem.row, wmA, r101, s101, hjw]
                exact fin _ (e + 10) (by simp [r1, s1]) (by simp [r8, s8]) (by simp [r10, s10]) (by simp [r11, s11]) (by simp [r12, s12]) (by simp [r99, s99]) (by simp [r100, s100]) (by simp) (by simp [r13]) hle hp
              · simp [s1]
              · simp [s10]
              · simp [s11]
              · simp [s13]
              · simp
          · have hd : dgt c = none := by simp only [dgt]; rw [if_neg h48, if_neg h97]
            generalize hlo : lowN c = lo at *
            have cl : ∀ {R : Value → Mem → Prop}, R (.int .u8 ((lo : Nat) : Int)) m2 → AbC Tryz.prog w0 111 [.int .u8 (c.toNat : Int)] m2 R := fun h => c_lower (by rw [hlo]; exact h)
            have out : ∀ ts3 : Fr, ts3 6 = .int .u64 0 → ts3 7 = .iface 204 (.int .i64 2) → Q .ret ts3 m2 := fun ts3 e6 e7 => he ts3 m2 0 2 o1 e6 e7 (.inr rfl) (fun h => absurd h (by decide)) (bad (by simp [puStep, hd]))
            by_cases h48a : (48 : Int) ≤ (c.toNat : Int)
            · have h57 : ¬ (c.toNat : Int) ≤ 57 := by omega
              simp -implicitDefEqProofs (disch := first | assumption | (simp only [wnA]; done) | (simp only [wnA]; omega) | omega | fail) [hjl, rc101_3, wkA, retV, stabOk, dC, ev, fillD, pickCells, putAt, bnd, slD, List.getElem?_cons_zero, List.getElem?_cons_succ, dR_sl, Mem.cell, Mem.row, wmA, s8, s99, s101, sidx_at, g1, hat, hat', byteV, q1, h48a, h57]
              refine cl ?_
              by_cases hl1 : (97 : Int) ≤ (lo : Int)
              · have hl2 : ¬ (lo : Int) ≤ 122 := by omega
                simp -implicitDefEqProofs (disch := first | assumption | (simp only [wnA]; done) | (simp only [wnA]; omega) | omega | fail) [wkA, retV, stabOk, dC, ev, fillD, pickCells, putAt, bnd, slD, List.getElem?_cons_zero, List.getElem?_cons_succ, dR_sl, Mem.cell, Mem.row, wmA, hl1]
                refine cl ?_
                simp -implicitDefEqProofs (disch := first | assumption | (simp only [wnA]; done) | (simp only [wnA]; omega) | omega | fail) [wkA, retV, stabOk, dC, ev, fillD, pickCells, putAt, bnd, slD, List.getElem?_cons_zero, List.getElem?_cons_succ, dR_sl, Mem.cell, Mem.row, wmA, hl2]
                exact out _ (by simp) (by simp)
              · simp -implicitDefEqProofs (disch := first | assumption | (simp only [wnA]; done) | (simp only [wnA]; omega) | omega | fail) [wkA, retV, stabOk, dC, ev, fillD, pickCells, putAt, bnd, slD, List.getElem?_cons_zero, List.getElem?_cons_succ, dR_sl, Mem.cell, Mem.row, wmA, hl1]
                exact out _ (by simp) (by simp)
            · simp -implicitDefEqProofs (disch := first | assumption | (simp only [wnA]; done) | (simp only [wnA]; omega) | omega | fail) [hjl, rc101_3, wkA, retV, stabOk, dC, ev, fillD, pickCells, putAt, bnd, slD, List.getElem?_cons_zero, List.getElem?_cons_succ, dR_sl, Mem.cell, Mem.row, wmA, s8, s99, s101, sidx_at, g1, hat, hat', byteV, q1, h48a]
              refine cl ?_
              by_cases hl1 : (97 : Int) ≤ (lo : Int)
              · have hl2 : ¬ (lo : Int) ≤ 122 := by omega
                simp -implicitDefEqProofs (disch := first | assumption | (simp only [wnA]; done) | (simp only [wnA]; omega) | omega | fail) [wkA, retV, stabOk, dC, ev, fillD, pickCells, putAt, bnd, slD, List.getElem?_cons_zero, List.getElem?_cons_succ, dR_sl, Mem.cell, Mem.row, wmA, hl1]
                refine cl ?_
                simp -implicitDefEqProofs (disch := first | assumption | (simp only [wnA]; done) | (simp only [wnA]; omega) | omega | fail) [wkA, retV, stabOk, dC, ev, fillD, pickCells, putAt, bnd, slD, List.getElem?_cons_zero, List.getElem?_cons_succ, dR_sl, Mem.cell, Mem.row, wmA, hl2]
                exact out _ (by simp) (by simp)
              · simp -implicitDefEqProofs (disch := first | assumption | (simp only [wnA]; done) | (simp only [wnA]; omega) | omega | fail) [wkA, retV, stabOk, dC, ev, fillD, pickCells, putAt, bnd, slD, List.getElem?_cons_zero, List.getElem?_cons_succ, dR_sl, Mem.cell, Mem.row, wmA, hl1]
                exact out _ (by simp) (by simp)
    · have hjj : j = s.size := by omega
      subst hjj
      rw [List.drop_eq_nil_of_le (by omega)] at hpu
      simp -implicitDefEqProofs (disch := first | assumption | (simp only [wnA]; done) | (simp only [wnA]; omega) | omega | fail) [hjl, rc101_6, rc101_5, wkA, retV, stabOk, dC, ev, fillD, pickCells, putAt, bnd, slD, List.getElem?_cons_zero, List.getElem?_cons_succ, dR_sl, Mem.cell, Mem.row, wmA, s12, s13]
      exact hq _ _ n o1 (by simp) (by simp) hpu
end Go.Proofs.YtjlicambfepfiaaGreatDoor.Ab

set_option linter.unusedVariables false
set_option linter.unusedSimpArgs false
namespace Go.Proofs.YtjlicambfepfiaaGreatDoor.Ab
open Go Go.RowKit
set_option maxHeartbeats 4000000
set_option maxRecDepth 100000
theorem c_iPU {w0 : World} {m : Mem} {B M bits : Nat} {s : ByteArray} {Q : Value → Mem → Prop} (hB : B = 8 ∨ B = 10 ∨ B = 16) (hM : (bits = 32 ∧ M = 4294967295) ∨ (bits = 64 ∧ M = 18446744073709551615)) (hs : s.size ≤ 140737488355328)
    (he : ∀ m' v c, Old m m' → (c = 1 ∨ c = 2) → (s.size = 0 → c = 2) → (c = 1 → v = (M : Int)) → (s.size = 0 ∨ puL B M 0 s.data.toList = none) → Q (.tuple ⟨[.int .u64 v, .iface 204 (.int .i64 c)]⟩) m')
    (hq : ∀ m' v, Old m m' → s.size ≠ 0 → puL B M 0 s.data.toList = some v → Q (.tuple ⟨[.int .u64 ((v : Nat) : Int), .nilIface]⟩) m') :
    AbC Tryz.prog w0 101 [.string s, .int .i64 (B : Int), .int .i64 (bits : Int)] m Q := by
  refine AbC_fn ok101 (by simp) ?_
  simp -implicitDefEqProofs (disch := first | assumption | (simp only [wnA]; done) | (simp only [wnA]; omega) | omega | fail) [rc101, ro101, wkA, retV, stabOk, dC, ev, fillD, pickCells, putAt, bnd, slD, List.getElem?_cons_zero, List.getElem?_cons_succ, dR_sl, Mem.cell, Mem.row, wmA]
  by_cases h0 : s.size = 0
  · have hem : s.data.isEmpty = true := Array.isEmpty_iff_size_eq_zero.2 h0
    simp -implicitDefEqProofs (disch := first | assumption | (simp only [wnA]; done) | (simp only [wnA]; omega) | omega | fail) [wkA, retV, stabOk, dC, ev, fillD, pickCells, putAt, bnd, slD, List.getElem?_cons_zero, List.getElem?_cons_succ, dR_sl, Mem.cell, Mem.row, wmA, hem]
    exact he _ 0 2 (Old.refl m) (.inr rfl) (fun _ => rfl) (fun h => absurd h (by decide)) (.inl h0)
  · have hem : s.data.isEmpty = false := by
      cases hx : s.data.isEmpty with
      | false => rfl
      | true => exact (h0 (Array.isEmpty_iff_size_eq_zero.1 hx)).elim
    have f1 : (2 : Int) ≤ (B : Int) ∧ (B : Int) ≤ 36 := by omega
    have f2 : (B : Int) ≠ 0 := by omega
    have f3 : (bits : Int) ≠ 0 := by omega
    have f4 : ¬ (bits : Int) < 0 := by omega
    have f5 : ¬ (64 : Int) < (bits : Int) := by omega
    have he' : ∀ (ts' : Fr) (m' : Mem) (v c : Int), Old m m' → ts' 6 = .int .u64 v → ts' 7 = .iface 204 (.int .i64 c) → (c = 1 ∨ c = 2) → (c = 1 → v = (M : Int)) → puL B M 0 s.data.toList = none → bodyA ro101 Q .ret ts' m' := fun ts' m' v c o e6 e7 hc hvM hn => by
      simp -implicitDefEqProofs (disch := first | assumption | (simp only [wnA]; done) | (simp only [wnA]; omega) | omega | fail) [ro101, wkA, retV, stabOk, dC, ev, fillD, pickCells, putAt, bnd, slD, List.getElem?_cons_zero, List.getElem?_cons_succ, dR_sl, Mem.cell, Mem.row, wmA, e6, e7]
      exact he m' v c o hc (fun h => absurd h h0) hvM (.inr hn)
    have hq' : ∀ (ts' : Fr) (m' : Mem) (v : Nat), Old m m' → ts' 6 = .int .u64 ((v : Nat) : Int) → ts' 7 = .nilIface → puL B M 0 s.data.toList = some v → bodyA ro101 Q .ret ts' m' := fun ts' m' v o e6 e7 hv => by
      simp -implicitDefEqProofs (disch := first | assumption | (simp only [wnA]; done) | (simp only [wnA]; omega) | omega | fail) [ro101, wkA, retV, stabOk, dC, ev, fillD, pickCells, putAt, bnd, slD, List.getElem?_cons_zero, List.getElem?_cons_succ, dR_sl, Mem.cell, Mem.row, wmA, e6, e7]
      exact hq m' v o h0 hv
    simp only [ro101] at he' hq'
    rcases hB with rfl | rfl | rfl
    · have w2 : dBin .quo (.int .u64 18446744073709551615) (.int .u64 8) = some (.int .u64 2305843009213693951) := rfl
      have w3 : IntKind.u64.wrap 2305843009213693952 = 2305843009213693952 := rfl
      have w4 : IntKind.u64.wrap 8 = 8 := rfl
      simp -implicitDefEqProofs (disch := first | assumption | (simp only [wnA]; done) | (simp only [wnA]; omega) | omega | fail) [wkA, retV, stabOk, dC, ev, fillD, pickCells, putAt, bnd, slD, List.getElem?_cons_zero, List.getElem?_cons_succ, dR_sl, Mem.cell, Mem.row, wmA, hem, rc101_10, rc101_9, rc101_8, beqF f3, f4, f5, w2, w3, w4]
      exact w_PUloop (B := 8) (C := 2305843009213693952) (by omega) (.inl rfl) hM hs (by simp [frA_at]) (by simp [frA_at]) (by simp [frA_at]) (by simp) (by simp) he' hq'
    · simp -implicitDefEqProofs (disch := first | assumption | (simp only [wnA]; done) | (simp only [wnA]; omega) | omega | fail) [wkA, retV, stabOk, dC, ev, fillD, pickCells, putAt, bnd, slD, List.getElem?_cons_zero, List.getElem?_cons_succ, dR_sl, Mem.cell, Mem.row, wmA, hem, rc101_10, rc101_9, rc101_8, beqF f3, f4, f5]
      exact w_PUloop (B := 10) (C := 1844674407370955162) (by omega) (.inr (.inl rfl)) hM hs (by simp [frA_at]) (by simp [frA_at]) (by simp [frA_at]) (by simp) (by simp) he' hq'
    · simp -implicitDefEqProofs (disch := first | assumption | (simp only [wnA]; done) | (simp only [wnA]; omega) | omega | fail) [wkA, retV, stabOk, dC, ev, fillD, pickCells, putAt, bnd, slD, List.getElem?_cons_zero, List.getElem?_cons_succ, dR_sl, Mem.cell, Mem.row, wmA, hem, rc101_10, rc101_9, rc101_8, beqF f3, f4, f5]
      exact w_PUloop (B := 16) (C := 1152921504606846976) (by omega) (.inr (.inr rfl)) hM hs (by simp [frA_at]) (by simp [frA_at]) (by simp [frA_at]) (by simp) (by simp) he' hq'
theorem St.dead {P : Program} {w0 w : World} {G : Loc} {m : Mem} (h : St P w0 G m w) (x : Nat × Nat × Nat) : Loc.le G (fun i => if i = m.next then some x else G i) ∧ St P w0 (fun i => if i = m.next then some x else G i) (m.push .dead) w := by
  have hle : Loc.le G (fun i => if i = m.next then some x else G i) := by
    intro i y hy
    have := h.dom i y hy
    show (if i = m.next then some x else G i) = some y
    rw [if_neg (by omega)]; exact hy
  refine ⟨hle, h.below, ?_, ?_, ?_, ?_, ?_, ?_⟩
  · intro i y hy
    by_cases hi : i = m.next
    · subst hi; simp
    · simp only [hi, if_false] at hy
      have := h.dom i y hy
      simp; omega
  · intro i B b S hd hx
    by_cases hi : i = m.next
    · subst hi; simp at hd
    · simp only [hi, if_false] at hx
      exact h.lim i B b S (by simpa only [Mem.push_get, hi, if_false] using hd) hx
  · intro i hd
    by_cases hi : i = m.next
    · subst hi; simp at hd
    · simp only [Mem.push_get, hi, if_false] at hd ⊢
      obtain ⟨B, b, S, hg, hr⟩ := h.ent i hd
      exact ⟨B, b, S, hg, hr.mono hle⟩
  · intro i j B y z hi hj gi gj
    have key : ∀ k, ((m.push .dead).get k).mine = true → k ≠ m.next ∧ (m.get k).mine = true := by
      intro k hk
      by_cases e : k = m.next
      · subst e; simp [Ent.mine] at hk
      · exact ⟨e, by simpa only [Mem.push_get, e, if_false] using hk⟩
    obtain ⟨e1, k1⟩ := key i hi
    obtain ⟨e2, k2⟩ := key j hj
    simp only [e1, e2, if_false] at gi gj
    exact h.inj i j B y z k1 k2 gi gj
  · intro g hg
    obtain ⟨S, hS⟩ := h.glob g hg
    exact ⟨S, hle _ _ hS⟩
  · intro i cs e B b S hi hx
    by_cases h1 : i = m.next
    · subst h1; simp at hi
    · simp only [Mem.push_get, h1, if_false] at hi hx
      exact h.ali i cs e B b S hi hx
theorem c_callsP {P : Program} {w0 : World} {m : Mem} {f : FuncId} {args : List Value} {T : TypeId} {Q : Value → Mem → Prop} (hcall : callOk P f = true) (ha : args.all (plainV 6) = true)
    (h : ∀ (G : Loc) (w : World), St P w0 G m w → Calls P f args.toArray w fun e w' => ∃ N, e = .returned (.iface T (.pointer (some ⟨N, 0, none⟩))) ∧ Below w.heap.size w w') (hq : Q (.iface T (.pointer (some ⟨m.next, 0, none⟩))) (m.push .dead)) : AbC P w0 f args m Q := by
  intro G w args' hs hargs
  have ha' : ∀ u ∈ args, plainV 6 u = true := by simpa [List.all_eq_true] using ha
  have he : args' = args := VRs.plain_eq hargs fun u hu u' hr => VR.plain_eq 6 u u' (ha' u hu) hr
  subst he
  rw [run_callFunc_enter hcall]
  show Calls _ _ _ _ _
  refine (h G w hs).mono ?_
  rintro e w' ⟨N, rfl, hb⟩
  obtain ⟨h1, h2⟩ := (hs.grown hb).dead (N, 0, 0)
  exact ⟨_, rfl, _, _, _, h1, .iface _ _ _ (.ptr m.next 0 N 0 0 (by simp)), h2, hq⟩
def IfaceAt (w : World) (g : Nat) : Prop := ∃ ev, w.cell? ⟨g, 0, none⟩ = some ev ∧ (ev = .nilIface ∨ ∃ t p, ev = .iface t p)
/-- The library's two errors lie in the world. -/
abbrev ErrV (w : World) : Prop := IfaceAt w 3 ∧ IfaceAt w 4
theorem ifaceAt {P : Program} {w0 w : World} {G : Loc} {m : Mem} {g : Nat} (h : IfaceAt w0 g) (hs : St P w0 G m w) : IfaceAt w g := by
  obtain ⟨ev, h1, h2⟩ := h
  refine ⟨ev, ?_, h2⟩
  have hlt : g < w0.heap.size := by
    rcases Nat.lt_or_ge g w0.heap.size with h' | h'
    · exact h'
    · simp [World.cell?, Array.getElem?_eq_none h'] at h1
  unfold World.cell? at h1 ⊢
  rw [hs.below.block g hlt]; exact h1
theorem c_toError {w0 : World} {m : Mem} {fn s : ByteArray} {base bits c : Int} {Q : Value → Mem → Prop} (hE : ErrV w0) (hc : c = 1 ∨ c = 2) (hs : s.size ≤ 140737488355328) (hq : Q (.iface 207 (.pointer (some ⟨m.next, 0, none⟩))) (m.push .dead)) :
    AbC Tryz.prog w0 102 [.string fn, .string s, .int .i64 base, .int .i64 bits, .iface 204 (.int .i64 c)] m Q := by
  refine c_callsP (T := 207) (by kernel_rfl) (by rcases hc with rfl | rfl <;> rfl) (fun G w hst => ?_) hq
  rcases hc with rfl | rfl
  · obtain ⟨ev, h1, h2⟩ := ifaceAt hE.2 hst
    refine (Tryz.strconv_toError_range fn s base bits ev w (by omega) h1 h2).mono ?_
    rintro e w' ⟨N, rfl, -, -, hb⟩
    exact ⟨N, rfl, hb⟩
  · obtain ⟨ev, h1, h2⟩ := ifaceAt hE.1 hst
    refine (Tryz.strconv_toError_syntax fn s base bits ev w (by omega) h1 h2).mono ?_
    rintro e w' ⟨N, rfl, -, -, hb⟩
    exact ⟨N, rfl, hb⟩
theorem laid_iface {P : Program} {W : World} {l : List (String × DataW Unit)} {name tn : String} {d : DataW Unit} {g t : Nat} {ms : Array _} (h : laidMet P l W) (hm : (name, .iface tn d) ∈ l)
    (hg : P.globalNamed name = some g) (hty : (P.globals[g]?).map (·.type) = some t) (ht : P.underlying t = some (.interface ms)) : IfaceAt W g := by
  obtain ⟨ps, hv, _⟩ := h
  obtain ⟨g', t', cs, fuel, p, h1, h2, h3, h4⟩ := laid_mem hv hm
  obtain rfl := Option.some.inj (hg.symm.trans h1)
  obtain rfl := Option.some.inj (hty.symm.trans h2)
  cases fuel with
  | zero => simp [DataW.trod] at h4
  | succ fuel =>
    have hc := fun v (hv : cs.toList = [v]) => by
      have : W.cell? ⟨g, 0, none⟩ = some v := by
        have := World.var?_cell hg h3 0
        rw [this]
        have e : cs[0]? = cs.toList[0]? := by simp
        rw [e, hv]; rfl
      exact this
    simp only [DataW.trod, ht] at h4
    split at h4 <;> first
      | (cases ‹some (TypeDesc.interface ms) = some _›; done)
      | (cases ‹some (TypeDesc.interface ms) = some _›; first
          | (simp at h4; done)
          | exact ⟨_, hc _ ‹cs.toList = _›, .inr ⟨_, _, rfl⟩⟩)
      | (simp at h4; done)
theorem errV_of {W : World} {l : List (String × DataW Unit)} {d1 d2 : DataW Unit} (h : laidMet Tryz.prog l W) (h1 : ("strconv.ErrSyntax", .iface "*errors.errorString" d1) ∈ l) (h2 : ("strconv.ErrRange", .iface "*errors.errorString" d2) ∈ l) : ErrV W :=
  ⟨laid_iface (g := 3) (t := 36) h h1 (by kernel_rfl) (by kernel_rfl) Tryz.underlying36, laid_iface (g := 4) (t := 36) h h2 (by kernel_rfl) (by kernel_rfl) Tryz.underlying36⟩
theorem c_ParseUint {w0 : World} {m : Mem} {B M bits : Nat} {s : ByteArray} {Q : Value → Mem → Prop} (hE : ErrV w0) (hB : B = 8 ∨ B = 10 ∨ B = 16) (hM : (bits = 32 ∧ M = 4294967295) ∨ (bits = 64 ∧ M = 18446744073709551615)) (hs : s.size ≤ 140737488355328)
    (he : ∀ m' v p, Old m m' → (s.size = 0 ∨ puL B M 0 s.data.toList = none) → Q (.tuple ⟨[.int .u64 v, .iface 207 p]⟩) m')
    (hq : ∀ m' v, Old m m' → s.size ≠ 0 → puL B M 0 s.data.toList = some v → Q (.tuple ⟨[.int .u64 ((v : Nat) : Int), .nilIface]⟩) m') :
    AbC Tryz.prog w0 90 [.string s, .int .i64 (B : Int), .int .i64 (bits : Int)] m Q := by
  refine AbC_fn ok90 (by simp) ?_
  simp -implicitDefEqProofs (disch := first | assumption | (simp only [wnA]; done) | (simp only [wnA]; omega) | omega | fail) [rc90, ro90, wkA, retV, stabOk, dC, ev, fillD, pickCells, putAt, bnd, slD, List.getElem?_cons_zero, List.getElem?_cons_succ, dR_sl, Mem.cell, Mem.row, wmA]
  refine c_iPU hB hM hs (fun m1 v c o1 hc _ _ hn => ?_) fun m1 v o1 h0 hv => ?_
  · simp -implicitDefEqProofs (disch := first | assumption | (simp only [wnA]; done) | (simp only [wnA]; omega) | omega | fail) [wkA, retV, stabOk, dC, ev, fillD, pickCells, putAt, bnd, slD, List.getElem?_cons_zero, List.getElem?_cons_succ, dR_sl, Mem.cell, Mem.row, wmA]
    refine c_toError hE hc hs ?_
    simp -implicitDefEqProofs (disch := first | assumption | (simp only [wnA]; done) | (simp only [wnA]; omega) | omega | fail) [wkA, retV, stabOk, dC, ev, fillD, pickCells, putAt, bnd, slD, List.getElem?_cons_zero, List.getElem?_cons_succ, dR_sl, Mem.cell, Mem.row, wmA]
    exact he _ v _ (o1.push _) hn
  · simp -implicitDefEqProofs (disch := first | assumption | (simp only [wnA]; done) | (simp only [wnA]; omega) | omega | fail) [wkA, retV, stabOk, dC, ev, fillD, pickCells, putAt, bnd, slD, List.getElem?_cons_zero, List.getElem?_cons_succ, dR_sl, Mem.cell, Mem.row, wmA, rc90_0]
    exact hq m1 v o1 h0 hv
end Go.Proofs.YtjlicambfepfiaaGreatDoor.Ab

set_option linter.unusedVariables false
set_option linter.unusedSimpArgs false
namespace Go.Proofs.YtjlicambfepfiaaGreatDoor.Ab
open Go Go.RowKit
set_option maxHeartbeats 4000000
set_option maxRecDepth 100000
theorem dgt_digC : ∀ d : Fin 36, dgt (digC d.val) = some d.val ∧ digC d.val ≠ 43 ∧ digC d.val ≠ 45 := by decide +kernel
theorem puL_snoc {B M : Nat} (c : UInt8) : ∀ (l : List UInt8) (n : Nat), puL B M n (l ++ [c]) = (puL B M n l).bind fun n' => puStep B M n' c
  | [], n => by
    simp only [List.nil_append, puL, Option.bind_some]
    cases puStep B M n c <;> rfl
  | a :: l, n => by
    simp only [List.cons_append, puL]
    cases puStep B M n a with
    | none => rfl
    | some n' => exact puL_snoc c l n'
theorem puL_digs {B M : Nat} (hB : 2 ≤ B ∧ B ≤ 36) : ∀ n, n ≤ M → puL B M 0 (digs B n) = some n := by
  intro n
  induction n using Nat.strongRecOn with
  | _ n ih =>
    intro hn
    by_cases h : n < B
    · rw [digs_lt h]
      simp only [puL, puStep, (dgt_digC ⟨n, by omega⟩).1]
      rw [if_pos ⟨h, by omega⟩]
      simp
    · have h1 : n / B < n := Nat.div_lt_self (by omega) (by omega)
      have h2 : n % B < B := Nat.mod_lt _ (by omega)
      have h3 : n / B * B + n % B = n := Nat.div_add_mod' n B
      rw [digs_ge (by omega) (by omega), puL_snoc, ih _ h1 (by omega)]
      simp only [Option.bind_some, puStep, (dgt_digC ⟨n % B, by omega⟩).1]
      rw [if_pos ⟨h2, by omega⟩, h3]
end Go.Proofs.YtjlicambfepfiaaGreatDoor.Ab

set_option linter.unusedVariables false
set_option linter.unusedSimpArgs false
namespace Go.Proofs.YtjlicambfepfiaaGreatDoor.Ab
open Go Go.RowKit
theorem ba_idx (l : List UInt8) (n : Nat) : (ByteArray.mk ⟨l⟩)[n]? = l[n]? := by
  show (if h : n < l.length then some _ else none) = _
  split
  · rename_i hj; rw [List.getElem?_eq_getElem hj]; rfl
  · rename_i hj; rw [List.getElem?_eq_none (by omega)]
theorem getOf {S : ByteArray} {n : Nat} {x : UInt8} (g : S[n]? = some x) : ∀ h : n < S.size, S[n]'h = x := fun h => by
  have := getElem?_pos S n h
  rw [g] at this
  exact (Option.some.inj this).symm
end Go.Proofs.YtjlicambfepfiaaGreatDoor.Ab

set_option linter.unusedVariables false
set_option linter.unusedSimpArgs false
namespace Go.Proofs.YtjlicambfepfiaaGreatDoor.Ab
open Go Go.RowKit
open Go.Sort (Holds putRow putCells onCells)
set_option maxHeartbeats 4000000
set_option maxRecDepth 100000
/-- The numeral is written into a row of zeros. -/
theorem c_fmtB10 {w0 : World} {m : Mem} {i n u : Nat} {cs : List Value} {E : TypeId} {Q : Value → Mem → Prop} (hg : m.get i = .own cs E) (hn : n = Lib.nDigits u) (hl : n ≤ cs.length) (hz : ∀ j, j < n → cs[j]? = some (.int .u8 0)) (hu : 1 ≤ u ∧ u < 18446744073709551616)
    (hq : Q (.tuple ⟨[]⟩) (m.set i (.own ((digs 10 u).map byteV ++ cs.drop n) E))) : AbC Tryz.prog w0 108 [.slice (some ⟨i, 0, none⟩) n 1, .int .u64 (u : Int)] m Q := by
  intro G w args' hs hargs
  have hnd : n ≤ 20 := by have := Lib.numDigits_eq u hu.1 hu.2; split at this <;> omega
  have hn1 : 1 ≤ n := by rw [hn, ← Lib.decDigits_length, dec_digs]; exact digs_pos _ _
  cases hargs with
  | cons _ a1 _ r1 h1 hr =>
  cases hr with
  | cons _ a2 _ r2 h2 hr =>
  cases hr
  cases h2
  cases h1 with
  | sl _ _ B b S _ cp _ hgi hnc hcm hS =>
  rw [run_callFunc_enter (by kernel_rfl)]
  show Calls _ _ _ _ _
  obtain ⟨hB, c, fz, hw, hcS, hop, hcell, hlen⟩ := own_get hs hgi hg
  have hlen := hlen (by omega)
  simp only [Nat.add_zero]
  have hH : Holds (fun (b : UInt8) => Value.int .u8 (b.toNat : Int)) w B b (Array.replicate n 0) := by
    intro j hj
    rw [Array.size_replicate] at hj
    obtain ⟨v', hv1, hv2⟩ := hcell j _ (hz j hj)
    cases hv2
    refine ⟨?_, cells_frozen hw hop _ (by omega)⟩
    simp only [World.cell?, hw, Option.isSome_none, Bool.false_eq_true, if_false, hv1]
    rw [getElem!_pos _ j (by simpa using hj), Array.getElem_replicate]; rfl
  have key := Tryz.internal_strconv_formatBase10 B b cp u (Array.replicate n 0) w hH (by rw [Array.size_replicate, hn]; exact Lib.lt_pow_nDigits u) hu.2 (by rw [Array.size_replicate]; omega)
  rw [Array.size_replicate] at key
  refine key.mono ?_
  rintro e w' ⟨rfl, k, v', dk, rfl, hF⟩
  have hdk : dk.size = n := hF.size
  have hst : St Tryz.prog w0 G (m.set i (.own ((digs 10 u).map byteV ++ cs.drop n) E)) ((putRow (fun (b : UInt8) => Value.int .u8 (b.toNat : Int)) w B b dk).drewN k) := by
    have hw' : ((putRow (fun (b : UInt8) => Value.int .u8 (b.toNat : Int)) w B b dk).drewN k).heap[B]? = some (.cells (putCells (fun (b : UInt8) => Value.int .u8 (b.toNat : Int)) b dk c) E fz) := by
      show (w.heap.modify B _)[B]? = _
      rw [Array.getElem?_modify]
      simp [hw, onCells]
    refine hs.write (e := .own ((digs 10 u).map byteV ++ cs.drop n) E) (by rw [hg]; rfl) hgi rfl rfl rfl (by simp [World.drewN]) (fun q hq => ?_) ⟨hB, _, fz, hw', by simp [putCells, hcS], by simpa [putCells] using hop, fun j v hj => ?_⟩ (fun cs' e' he => by cases he; exact ⟨cs, hg⟩)
    · show (w.heap.modify B _)[q]? = _
      rw [Array.getElem?_modify, if_neg (fun e => hq e.symm)]
    · have hdl : (digs 10 u).length = n := by rw [← dec_digs, Lib.decDigits_length, hn]
      rw [List.getElem?_append] at hj
      by_cases hjn : j < n
      · rw [if_pos (by simpa [hdl] using hjn), List.getElem?_map] at hj
        have hjd : j < (digs 10 u).length := by omega
        rw [List.getElem?_eq_getElem hjd] at hj
        simp at hj; subst hj
        refine ⟨_, ?_, .int _ _⟩
        have hjc : b + j < c.size := by omega
        have hnum := Lib.row_is_numeral (u := u) (v' := v') (dk := dk) (by rw [← hn]; exact hF) j (by rw [Lib.decDigits_length, ← hn]; exact hjn)
        have hd2 : (digs 10 u)[j] = dk[j]! := by rw [← hnum]; congr 1; exact (dec_digs u).symm
        simp only [putCells, Array.getElem?_mapIdx]
        rw [Array.getElem?_eq_getElem hjc]
        simp only [Option.map_some]
        rw [if_pos (by omega), Nat.add_sub_cancel_left, hd2]
      · rw [if_neg (by simpa [hdl] using hjn), List.length_map, hdl, List.getElem?_drop, show n + (j - n) = j from by omega] at hj
        obtain ⟨v2, hv1, hv2⟩ := hcell j v hj
        refine ⟨v2, ?_, hv2⟩
        simp only [putCells, Array.getElem?_mapIdx, hv1, Option.map_some]
        rw [if_neg (by omega)]
  exact ⟨_, rfl, G, _, _, Loc.le_refl G, .tuple _ _ .nil, hst, hq⟩
theorem bstr_pre {m : Mem} {i n : Nat} {E : TypeId} {l : List UInt8} {r : List Value} (h : m.get i = .own (l.map byteV ++ r) E) (hl : l.length = n) : bstr m (.slice (some ⟨i, 0, none⟩) n 1) = some (.string ⟨⟨l⟩⟩) := by
  subst hl
  have h1 : (l.map byteV ++ r).take l.length = l.map byteV := by
    rw [List.take_append_of_le_length (by simp)]; exact List.take_of_length_le (by simp)
  simp only [bstr, Mem.row_own h, Nat.zero_add, List.drop_zero, h1]
  rw [if_pos (by simp)]
  simp only [bytesOf_mapN]
theorem c_FormatUint {w0 : World} {m : Mem} {B u : Nat} {Q : Value → Mem → Prop} (hp : Part L0 m) (ht : Ten w0) (hB : B = 10 ∨ B = 16) (hu : u < 18446744073709551616) (hq : ∀ m', Old m m' → Q (.string ⟨⟨digs B u⟩⟩) m') : AbC Tryz.prog w0 91 [.int .u64 (u : Int), .int .i64 (B : Int)] m Q := by
  refine AbC_fn ok91 (by simp) ?_
  simp -implicitDefEqProofs (disch := first | assumption | (simp only [wnA]; done) | (simp only [wnA]; omega) | omega | fail) [rc91, ro91, wkA, retV, stabOk, dC, ev, fillD, pickCells, putAt, bnd, slD, List.getElem?_cons_zero, List.getElem?_cons_succ, dR_sl, Mem.cell, Mem.row, wmA]
  refine AbC_fn ok103 (by simp) ?_
  rcases hB with rfl | rfl
  · by_cases h100 : u < 100
    · have h1 : (u : Int) < 100 := by omega
      have w1 : IntKind.i64.wrap (u : Int) = (u : Int) := w64 (by omega)
      simp -implicitDefEqProofs (disch := first | assumption | (simp only [wnA]; done) | (simp only [wnA]; omega) | omega | fail) [rc103, ro103, wkA, retV, stabOk, dC, ev, fillD, pickCells, putAt, bnd, slD, List.getElem?_cons_zero, List.getElem?_cons_succ, dR_sl, Mem.cell, Mem.row, wmA, h1, w1]
      refine c_calls (v := .string ⟨⟨digs 10 u⟩⟩) (by kernel_rfl) rfl rfl (fun G w hs => ?_) ?_
      · refine (Tryz.internal_strconv_small u h100 w).mono ?_
        rintro e w' ⟨rfl, rfl⟩
        exact ⟨by rw [dec_digs], Below.refl _ _⟩
      · simp -implicitDefEqProofs (disch := first | assumption | (simp only [wnA]; done) | (simp only [wnA]; omega) | omega | fail) [wkA, retV, stabOk, dC, ev, fillD, pickCells, putAt, bnd, slD, List.getElem?_cons_zero, List.getElem?_cons_succ, dR_sl, Mem.cell, Mem.row, wmA]
        exact hq m (Old.refl m)
    · have h1 : ¬ (u : Int) < 100 := by omega
      have hnd : Lib.nDigits u ≤ 20 := by have := Lib.numDigits_eq u (by omega) hu; split at this <;> omega
      have hdl : (digs 10 u).length = Lib.nDigits u := by rw [← dec_digs, Lib.decDigits_length]
      have hn1 := digs_pos 10 u
      simp -implicitDefEqProofs (disch := first | assumption | (simp only [wnA]; done) | (simp only [wnA]; omega) | omega | fail) [rc103, ro103, rc103_0, wkA, retV, stabOk, dC, ev, fillD, pickCells, putAt, bnd, slD, List.getElem?_cons_zero, List.getElem?_cons_succ, dR_sl, Mem.cell, Mem.row, wmA, h1]
      refine c_calls (v := .int .i64 (Lib.nDigits u)) (by kernel_rfl) rfl rfl (fun G w hs => ?_) ?_
      · refine (Tryz.internal_strconv_numDigits u (by omega) hu w (tab_at ht hs)).mono ?_
        rintro e w' ⟨rfl, rfl⟩
        exact ⟨rfl, Below.refl _ _⟩
      · generalize hN : Lib.nDigits u = n at *
        have hi : (0 : Int) ≤ (n : Int) ∧ (n : Int) ≤ 24 := by omega
        have hn0 : n ≠ 0 := by omega
        have hn24 : n ≤ 24 := by omega
        simp -implicitDefEqProofs (disch := first | assumption | (simp only [wnA]; done) | (simp only [wnA]; omega) | omega | fail) [wkA, retV, stabOk, dC, ev, fillD, pickCells, putAt, bnd, slD, List.getElem?_cons_zero, List.getElem?_cons_succ, dR_sl, Mem.cell, Mem.row, wmA, hi, hn24]
        refine c_fmtB10 (Mem.push_same m _) hN.symm (by simp; omega) (fun j hj => ?_) ⟨by omega, hu⟩ ?_
        · have hj24 : j < 24 := by omega
          have : ∀ k : Fin 24, (List.replicate 24 (Value.int .u8 0))[k.val]? = some (Value.int .u8 0) := fun k => by rw [List.getElem?_replicate, if_pos k.isLt]
          exact this ⟨j, hj24⟩
        · have hgo : ∀ (M : Mem), M.get m.next = .own ((digs 10 u).map byteV ++ (List.replicate 24 (Value.int .u8 0)).drop n) 199 → (((digs 10 u).map byteV ++ (List.replicate 24 (Value.int .u8 0)).drop n).length = 24) → True := fun _ _ _ => trivial
          have hlen24 : ((digs 10 u).map byteV ++ (List.replicate 24 (Value.int .u8 0)).drop n).length = 24 := by
            rw [List.length_append, List.length_map, List.length_drop, List.length_replicate, hdl]; omega
          have ho : ∀ E1 E2, Old m ((m.push E1).set m.next E2) := fun E1 E2 => ((Old.refl m).push E1).set (Nat.le_refl _) E2
          have hbs : ∀ E1, bstr ((m.push E1).set m.next (.own ((digs 10 u).map byteV ++ (List.replicate 24 (Value.int .u8 0)).drop n) 199)) (.slice (some ⟨m.next, 0, none⟩) n 1) = some (.string ⟨⟨digs 10 u⟩⟩) := fun E1 => bstr_pre (Mem.set_same _ _ _) hdl
          have hrep : (List.replicate 24 (Value.int .u8 0)) = [.int .u8 0, .int .u8 0, .int .u8 0, .int .u8 0, .int .u8 0, .int .u8 0, .int .u8 0, .int .u8 0, .int .u8 0, .int .u8 0, .int .u8 0, .int .u8 0, .int .u8 0, .int .u8 0, .int .u8 0, .int .u8 0, .int .u8 0, .int .u8 0, .int .u8 0, .int .u8 0, .int .u8 0, .int .u8 0, .int .u8 0, .int .u8 0] := rfl
          rw [hrep] at hlen24 hbs
          generalize hR : (digs 10 u).map byteV ++ List.drop n [.int .u8 0, .int .u8 0, .int .u8 0, .int .u8 0, .int .u8 0, .int .u8 0, .int .u8 0, .int .u8 0, .int .u8 0, .int .u8 0, .int .u8 0, .int .u8 0, .int .u8 0, .int .u8 0, .int .u8 0, .int .u8 0, .int .u8 0, .int .u8 0, .int .u8 0, .int .u8 0, .int .u8 0, .int .u8 0, .int .u8 0, .int .u8 0] = R at *
          simp -implicitDefEqProofs (disch := first | assumption | (simp only [wnA]; done) | (simp only [wnA]; omega) | omega | fail) [wkA, retV, stabOk, dC, ev, fillD, pickCells, putAt, bnd, slD, List.getElem?_cons_zero, List.getElem?_cons_succ, dR_sl, Mem.cell, Mem.row, wmA, hi, hn24, hlen24, hbs]
          exact hq _ (ho _ _)
  · simp -implicitDefEqProofs (disch := first | assumption | (simp only [wnA]; done) | (simp only [wnA]; omega) | omega | fail) [rc103, ro103, wkA, retV, stabOk, dC, ev, fillD, pickCells, putAt, bnd, slD, List.getElem?_cons_zero, List.getElem?_cons_succ, dR_sl, Mem.cell, Mem.row, wmA, rc103_1]
    refine c_fmtBits (B := 16) (k := 4) (a := u) (neg := false) hp rfl (by omega) (by omega) hu (by simp) pow16 tz16 fun m' ho => ?_
    simp -implicitDefEqProofs (disch := first | assumption | (simp only [wnA]; done) | (simp only [wnA]; omega) | omega | fail) [wkA, retV, stabOk, dC, ev, fillD, pickCells, putAt, bnd, slD, List.getElem?_cons_zero, List.getElem?_cons_succ, dR_sl, Mem.cell, Mem.row, wmA]
    exact hq m' ho
end Go.Proofs.YtjlicambfepfiaaGreatDoor.Ab

set_option linter.unusedVariables false
set_option linter.unusedSimpArgs false
namespace Go.Proofs.YtjlicambfepfiaaGreatDoor.Ab
open Go Go.RowKit
def isLet (c : UInt8) : Bool := decide (97 ≤ c.toNat) && decide (c.toNat ≤ 122)
def isDig (c : UInt8) : Bool := decide (48 ≤ c.toNat) && decide (c.toNat ≤ 57)
def isHx (c : UInt8) : Bool := decide (97 ≤ c.toNat) && decide (c.toNat ≤ 102)
/-- May a byte stand in a word: at its beginning, behind it? -/
def wq (b : Bool) (c : UInt8) : Bool := isLet c || (b && (isDig c || c.toNat == 45))
def wordN : Bool → List UInt8 → Nat
  | _, [] => 0
  | b, c :: r => if wq b c then wordN true r + 1 else 0
def inB (B : Nat) (c : UInt8) : Bool := isDig c || (B == 16 && isHx c)
def runN (p : UInt8 → Bool) : List UInt8 → Nat
  | [] => 0
  | c :: r => if p c then runN p r + 1 else 0
def hexH : List UInt8 → Bool
  | a :: b :: _ => a.toNat == 48 && b.toNat == 120
  | _ => false
def nB (l : List UInt8) : Nat := if hexH l then 16 else 10
def nF (l : List UInt8) : Nat := if hexH l then 2 else 0
def nN (l : List UInt8) : Nat := nF l + runN (inB (nB l)) (l.drop (nF l))
def nDs (l : List UInt8) : List UInt8 := (l.take (nN l)).drop (nF l)
def numV (l : List UInt8) : Option Nat := match puL (nB l) 4294967295 0 (nDs l) with
  | some v => if digs (nB l) v = nDs l ∧ wordN false (l.drop (nN l)) = 0 then some v else none
  | none => none
def escD (c : UInt8) : Option UInt8 := if c.toNat = 92 then some 92 else if c.toNat = 34 then some 34 else if c.toNat = 114 then some 13 else if c.toNat = 110 then some 10 else none
/-- What stands in quotes, behind the first one: how long it is, and its bytes. -/
def qd : List UInt8 → Option (Nat × List UInt8)
  | [] => none
  | [c] => if c.toNat = 34 then some (1, []) else none
  | c :: e :: r => if c.toNat = 34 then some (1, []) else if c.toNat < 32 ∨ 126 < c.toNat then none
    else if c.toNat = 92 then (match escD e with
      | some x => (qd r).map fun p => (p.1 + 2, x :: p.2)
      | none => none)
    else (qd (e :: r)).map fun p => (p.1 + 1, c :: p.2)
structure Tk where
  kd : Int
  tx : List UInt8
  vl : Int
def Tk.cells (t : Tk) (a : Nat) : List Value := [.int .i64 t.kd, .string ⟨⟨t.tx⟩⟩, .int .i64 t.vl, .int .i64 (a : Int)]
def isSg (c : UInt8) : Bool := c.toNat == 58 || c.toNat == 59 || c.toNat == 44 || c.toNat == 123 || c.toNat == 125
def isBl (c : UInt8) : Bool := c.toNat == 32 || c.toNat == 9 || c.toNat == 10
def oneL : List UInt8 → Option (Tk × Nat)
  | [] => none
  | c :: r => if isLet c then some (⟨1, (c :: r).take (wordN false (c :: r)), 0⟩, wordN false (c :: r))
    else if isDig c then (numV (c :: r)).map fun v => ((⟨2, (c :: r).take (nN (c :: r)), ((v : Nat) : Int)⟩ : Tk), nN (c :: r))
    else if c.toNat = 34 then (qd r).map fun p => (⟨3, p.2, 0⟩, p.1 + 1)
    else if isSg c then some (⟨4, [c], 0⟩, 1) else none
def no10 (c : UInt8) : Bool := c.toNat != 10
def endT : Tk := ⟨0, [], 0⟩
abbrev Cuts := Nat ⊕ List (Tk × Nat)
def preC (ts : List (Tk × Nat)) : Cuts → Cuts
  | .inl e => .inl e
  | .inr us => .inr (ts ++ us)
def cutF : Nat → Nat → List UInt8 → Cuts
  | 0, a, _ => .inr [(endT, a)]
  | _ + 1, a, [] => .inr [(endT, a)]
  | k + 1, a, c :: r => if isBl c then cutF k (a + 1) r
    else if c.toNat = 35 then cutF k (a + runN no10 (c :: r)) ((c :: r).drop (runN no10 (c :: r)))
    else match oneL (c :: r) with
      | none => .inl a
      | some (t, n) => preC [(t, a)] (cutF k (a + n) ((c :: r).drop n))
def cutL (a : Nat) (l : List UInt8) : Cuts := cutF l.length a l
theorem wordN_le : ∀ (b : Bool) (l : List UInt8), wordN b l ≤ l.length
  | _, [] => Nat.le_refl _
  | b, c :: r => by
    simp only [wordN]
    split
    · have := wordN_le true r; simp; omega
    · simp
theorem runN_le (p : UInt8 → Bool) : ∀ (l : List UInt8), runN p l ≤ l.length
  | [] => Nat.le_refl _
  | c :: r => by
    simp only [runN]
    split
    · have := runN_le p r; simp; omega
    · simp
theorem hexH_len {l : List UInt8} (h : hexH l = true) : 2 ≤ l.length := by
  unfold hexH at h
  split at h
  · simp
  · cases h
theorem nF_le (l : List UInt8) : nF l ≤ l.length := by
  unfold nF
  split
  · exact hexH_len ‹_›
  · simp
theorem nN_le (l : List UInt8) : nN l ≤ l.length := by
  have h1 := runN_le (inB (nB l)) (l.drop (nF l))
  have h2 := nF_le l
  rw [List.length_drop] at h1
  unfold nN; omega
theorem nN_pos {c : UInt8} {r : List UInt8} (h : isDig c = true) : 1 ≤ nN (c :: r) := by
  unfold nN nF
  split
  · omega
  · simp [runN, inB, h]
theorem qd_len : ∀ {l : List UInt8} {n : Nat} {t : List UInt8}, qd l = some (n, t) → 1 ≤ n ∧ n ≤ l.length
  | [], n, t, h => by simp [qd] at h
  | [c], n, t, h => by
    simp only [qd] at h
    split at h
    · simp at h; simp; omega
    · cases h
  | c :: e :: r, n, t, h => by
    simp only [qd] at h
    split at h
    · simp at h; simp; omega
    · split at h
      · cases h
      · split at h
        · split at h
          · rename_i x hx
            cases hq : qd r with
            | none => simp [hq] at h
            | some p =>
              obtain ⟨a, b⟩ := p
              simp [hq] at h
              have := qd_len hq
              simp; omega
          · cases h
        · cases hq : qd (e :: r) with
          | none => simp [hq] at h
          | some p =>
            obtain ⟨a, b⟩ := p
            simp [hq] at h
            have := qd_len hq
            simp at this ⊢; omega
theorem oneL_len {l : List UInt8} {t : Tk} {n : Nat} (h : oneL l = some (t, n)) : 1 ≤ n ∧ n ≤ l.length := by
  cases l with
  | nil => simp [oneL] at h
  | cons c r =>
    simp only [oneL] at h
    split at h
    · rename_i hc
      simp at h
      have h1 := wordN_le false (c :: r)
      have h2 : 1 ≤ wordN false (c :: r) := by simp [wordN, wq, hc]
      omega
    · split at h
      · rename_i hc
        cases hv : numV (c :: r) with
        | none => simp [hv] at h
        | some v =>
          simp [hv] at h
          have h1 := nN_le (c :: r)
          have h2 := nN_pos (r := r) hc
          omega
      · split at h
        · cases hq : qd r with
          | none => simp [hq] at h
          | some p =>
            obtain ⟨a, b⟩ := p
            simp [hq] at h
            have := qd_len hq
            simp; omega
        · split at h
          · simp at h; simp; omega
          · cases h
theorem run_cm {c : UInt8} {r : List UInt8} (h : c.toNat = 35) : 1 ≤ runN no10 (c :: r) := by
  simp [runN, no10, h]
theorem cutF_fuel : ∀ (k k' a : Nat) (l : List UInt8), l.length ≤ k → l.length ≤ k' → cutF k a l = cutF k' a l
  | 0, k', a, [], _, _ => by cases k' <;> rfl
  | 0, _, _, _ :: _, h, _ => by simp at h
  | k + 1, 0, a, [], _, _ => rfl
  | _, 0, _, _ :: _, _, h => by simp at h
  | k + 1, k' + 1, a, [], _, _ => rfl
  | k + 1, k' + 1, a, c :: r, h, h' => by
    simp at h h'
    simp only [cutF]
    split
    · exact cutF_fuel k k' _ r h h'
    · split
      · have := run_cm (r := r) ‹_›
        exact cutF_fuel k k' _ _ (by rw [List.length_drop]; simp; omega) (by rw [List.length_drop]; simp; omega)
      · split
        · rfl
        · rename_i t n ho
          have := oneL_len ho
          rw [cutF_fuel k k' _ _ (by rw [List.length_drop]; simp; omega) (by rw [List.length_drop]; simp; omega)]
theorem cutL_nil (a : Nat) : cutL a [] = .inr [(endT, a)] := rfl
theorem cutL_bl {c : UInt8} {a : Nat} {r : List UInt8} (h : isBl c = true) : cutL a (c :: r) = cutL (a + 1) r := by
  show cutF (r.length + 1) a (c :: r) = _
  simp only [cutF, h, if_true]
  rfl
theorem cutL_cm {c : UInt8} {a : Nat} {r : List UInt8} (h : isBl c = false) (h2 : c.toNat = 35) : cutL a (c :: r) = cutL (a + runN no10 (c :: r)) ((c :: r).drop (runN no10 (c :: r))) := by
  show cutF (r.length + 1) a (c :: r) = _
  have := run_cm (r := r) h2
  simp only [cutF, h, Bool.false_eq_true, if_false, h2, if_true]
  exact cutF_fuel _ _ _ _ (by rw [List.length_drop]; simp; omega) (by rw [List.length_drop]; exact Nat.le_refl _)
theorem cutL_none {c : UInt8} {a : Nat} {r : List UInt8} (h : isBl c = false) (h2 : c.toNat ≠ 35) (h3 : oneL (c :: r) = none) : cutL a (c :: r) = .inl a := by
  show cutF (r.length + 1) a (c :: r) = _
  simp only [cutF, h, Bool.false_eq_true, if_false, h2, h3]
theorem cutL_some {c : UInt8} {a n : Nat} {t : Tk} {r : List UInt8} (h : isBl c = false) (h2 : c.toNat ≠ 35) (h3 : oneL (c :: r) = some (t, n)) : cutL a (c :: r) = preC [(t, a)] (cutL (a + n) ((c :: r).drop n)) := by
  show cutF (r.length + 1) a (c :: r) = _
  have := oneL_len h3
  simp only [cutF, h, Bool.false_eq_true, if_false, h2, h3]
  unfold cutL
  rw [cutF_fuel r.length ((c :: r).drop n).length _ _ (by rw [List.length_drop]; simp at *; omega) (Nat.le_refl _)]
theorem preC_pre (a b : List (Tk × Nat)) (c : Cuts) : preC a (preC b c) = preC (a ++ b) c := by
  cases c <;> simp [preC]
theorem preC_nil (c : Cuts) : preC [] c = c := by cases c <;> rfl
end Go.Proofs.YtjlicambfepfiaaGreatDoor.Ab
set_option linter.unusedVariables false
set_option linter.unusedSimpArgs false
namespace Go.Proofs.YtjlicambfepfiaaGreatDoor.Ab
open Go Go.RowKit
set_option maxHeartbeats 1000000
set_option maxRecDepth 100000
theorem allB {p : UInt8 → Bool} (h : ∀ n : Fin 256, p (UInt8.ofNat n.val) = true) (c : UInt8) : p c = true := by
  have := h ⟨c.toNat, c.toNat_lt⟩
  simpa using this
theorem c_letter {w0 : World} {m : Mem} {c : UInt8} {Q : Value → Mem → Prop} (hq : Q (.bool (isLet c)) m) : AbC Tryz.prog w0 72 [.int .u8 (c.toNat : Int)] m Q := by
  refine AbC_fn ok72 (by simp) ?_
  have hq' := fun b (h : isLet c = b) => h ▸ hq
  simp only [isLet] at hq'
  by_cases h1 : 97 ≤ c.toNat
  · have i1 : (97 : Int) ≤ (c.toNat : Int) := by omega
    by_cases h2 : c.toNat ≤ 122
    · have i2 : (c.toNat : Int) ≤ 122 := by omega
      simp -implicitDefEqProofs (disch := first | assumption | (simp only [wnA]; done) | (simp only [wnA]; omega) | omega | fail) [rc72, ro72, wkA, retV, stabOk, dC, ev, fillD, pickCells, putAt, bnd, slD, List.getElem?_cons_zero, List.getElem?_cons_succ, dR.eq_20, Mem.cell, Mem.row, wmA, i1, i2]
      exact hq' _ (by simp [h1, h2])
    · have i2 : ¬ (c.toNat : Int) ≤ 122 := by omega
      simp -implicitDefEqProofs (disch := first | assumption | (simp only [wnA]; done) | (simp only [wnA]; omega) | omega | fail) [rc72, ro72, wkA, retV, stabOk, dC, ev, fillD, pickCells, putAt, bnd, slD, List.getElem?_cons_zero, List.getElem?_cons_succ, dR.eq_20, Mem.cell, Mem.row, wmA, i1, i2]
      exact hq' _ (by simp [h1, h2])
  · have i1 : ¬ (97 : Int) ≤ (c.toNat : Int) := by omega
    simp -implicitDefEqProofs (disch := first | assumption | (simp only [wnA]; done) | (simp only [wnA]; omega) | omega | fail) [rc72, ro72, wkA, retV, stabOk, dC, ev, fillD, pickCells, putAt, bnd, slD, List.getElem?_cons_zero, List.getElem?_cons_succ, dR.eq_20, Mem.cell, Mem.row, wmA, i1]
    exact hq' _ (by simp [h1])
theorem c_digit {w0 : World} {m : Mem} {c : UInt8} {Q : Value → Mem → Prop} (hq : Q (.bool (isDig c)) m) : AbC Tryz.prog w0 74 [.int .u8 (c.toNat : Int)] m Q := by
  refine AbC_fn ok74 (by simp) ?_
  have hq' := fun b (h : isDig c = b) => h ▸ hq
  simp only [isDig] at hq'
  by_cases h1 : 48 ≤ c.toNat
  · have i1 : (48 : Int) ≤ (c.toNat : Int) := by omega
    by_cases h2 : c.toNat ≤ 57
    · have i2 : (c.toNat : Int) ≤ 57 := by omega
      simp -implicitDefEqProofs (disch := first | assumption | (simp only [wnA]; done) | (simp only [wnA]; omega) | omega | fail) [rc74, ro74, wkA, retV, stabOk, dC, ev, fillD, pickCells, putAt, bnd, slD, List.getElem?_cons_zero, List.getElem?_cons_succ, dR.eq_20, Mem.cell, Mem.row, wmA, i1, i2]
      exact hq' _ (by simp [h1, h2])
    · have i2 : ¬ (c.toNat : Int) ≤ 57 := by omega
      simp -implicitDefEqProofs (disch := first | assumption | (simp only [wnA]; done) | (simp only [wnA]; omega) | omega | fail) [rc74, ro74, wkA, retV, stabOk, dC, ev, fillD, pickCells, putAt, bnd, slD, List.getElem?_cons_zero, List.getElem?_cons_succ, dR.eq_20, Mem.cell, Mem.row, wmA, i1, i2]
      exact hq' _ (by simp [h1, h2])
  · have i1 : ¬ (48 : Int) ≤ (c.toNat : Int) := by omega
    simp -implicitDefEqProofs (disch := first | assumption | (simp only [wnA]; done) | (simp only [wnA]; omega) | omega | fail) [rc74, ro74, wkA, retV, stabOk, dC, ev, fillD, pickCells, putAt, bnd, slD, List.getElem?_cons_zero, List.getElem?_cons_succ, dR.eq_20, Mem.cell, Mem.row, wmA, i1]
    exact hq' _ (by simp [h1])
theorem at_S {S : ByteArray} {j : Nat} {c : UInt8} {r : List UInt8} (h : S.data.toList.drop j = c :: r) : j < S.size ∧ S[j]? = some c ∧ S.data.toList.drop (j + 1) = r := by
  have hl : S.data.toList.length = S.size := by simp
  have h1 := congrArg List.length h
  rw [List.length_drop] at h1
  simp only [List.length_cons] at h1
  have hlt : j < S.data.toList.length := by omega
  refine ⟨by omega, ?_, ?_⟩
  · have e : S = ⟨⟨S.data.toList⟩⟩ := rfl
    rw [e, ba_idx]
    have := List.drop_eq_getElem_cons hlt
    rw [h] at this
    simp only [List.cons.injEq] at this
    rw [List.getElem?_eq_getElem hlt, ← this.1]
  · have := List.drop_eq_getElem_cons hlt
    rw [h] at this
    simp only [List.cons.injEq] at this
    exact this.2.symm
theorem drop_nil {S : ByteArray} {j : Nat} (h : S.data.toList.drop j = []) (hj : j ≤ S.size) : j = S.size := by
  have hl : S.data.toList.length = S.size := by simp
  have h1 := congrArg List.length h
  rw [List.length_drop] at h1
  simp only [List.length_nil] at h1
  omega
theorem c_word {w0 : World} {m : Mem} {S : ByteArray} {Q : Value → Mem → Prop} (hs : S.size ≤ 140737488355328) (hq : Q (.int .i64 (wordN false S.data.toList : Nat)) m) : AbC Tryz.prog w0 73 [.string S] m Q := by
  refine AbC_fn ok73 (by simp) ?_
  simp -implicitDefEqProofs (disch := first | assumption | (simp only [wnA]; done) | (simp only [wnA]; omega) | omega | fail) [rc73, ro73, wkA, retV, stabOk, dC, ev, fillD, pickCells, putAt, bnd, slD, List.getElem?_cons_zero, List.getElem?_cons_succ, dR.eq_20, Mem.cell, Mem.row, wmA]
  refine LoopW_of (fun k ts m' => ∃ j, j + k = S.size ∧ m' = m ∧ ts 0 = .string S ∧ ts 3 = .int .i64 (j : Nat) ∧ wordN false S.data.toList = j + wordN (decide (0 < j)) (S.data.toList.drop j)) S.size ?_ ?_
  · exact ⟨0, by omega, rfl, by simp [frA_at], by simp, by simp⟩
  · rintro k ts m2 K ⟨j, hj, rfl, t0, t3, hw⟩ hK
    have hend : wordN (decide (0 < j)) (S.data.toList.drop j) = 0 → Q (.int .i64 (j : Nat)) m2 := fun h => by
      rw [h, Nat.add_zero] at hw
      rw [hw] at hq; exact hq
    simp -implicitDefEqProofs (disch := first | assumption | (simp only [wnA]; done) | (simp only [wnA]; omega) | omega | fail) [rc73_1, wkA, retV, stabOk, dC, ev, fillD, pickCells, putAt, bnd, slD, List.getElem?_cons_zero, List.getElem?_cons_succ, dR.eq_20, Mem.cell, Mem.row, wmA, t0, t3]
    rcases hd : S.data.toList.drop j with _ | ⟨c, r⟩
    · have hjj := drop_nil hd (by omega)
      have hn : ¬ j < S.size := by omega
      simp -implicitDefEqProofs (disch := first | assumption | (simp only [wnA]; done) | (simp only [wnA]; omega) | omega | fail) [wkA, retV, stabOk, dC, ev, fillD, pickCells, putAt, bnd, slD, List.getElem?_cons_zero, List.getElem?_cons_succ, dR.eq_20, Mem.cell, Mem.row, wmA, t0, t3, hn, rc73_2]
      exact hend (by rw [hd]; rfl)
    · obtain ⟨hlt, g1, hr⟩ := at_S hd
      rw [hd] at hw hend
      have next : wq (decide (0 < j)) c = true → ∀ ts' : Fr, ts' 0 = ts 0 → ts' 3 = .int .i64 ((j + 1 : Nat) : Int) → K ts' m2 := fun h ts' e0 e3 =>
        hK (k - 1) ts' m2 (by omega) ⟨j + 1, by omega, rfl, by rw [e0, t0], e3, by
          rw [hw, hr]
          simp only [wordN, h, if_true, Nat.zero_lt_succ, decide_true]
          omega⟩
      have stop : wq (decide (0 < j)) c = false → Q (.int .i64 (j : Nat)) m2 := fun h => hend (by simp [wordN, h])
      simp -implicitDefEqProofs (disch := first | assumption | (simp only [wnA]; done) | (simp only [wnA]; omega) | omega | fail) [wkA, retV, stabOk, dC, ev, fillD, pickCells, putAt, bnd, slD, List.getElem?_cons_zero, List.getElem?_cons_succ, dR.eq_20, Mem.cell, Mem.row, wmA, t0, t3, hlt, g1, getOf g1]
      refine c_letter ?_
      have w1 : IntKind.i64.wrap ((j : Int) + 1) = ((j + 1 : Nat) : Int) := by rw [w64 (by omega)]; omega
      cases hle : isLet c with
      | true =>
        simp -implicitDefEqProofs (disch := first | assumption | (simp only [wnA]; done) | (simp only [wnA]; omega) | omega | fail) [wkA, retV, stabOk, dC, ev, fillD, pickCells, putAt, bnd, slD, List.getElem?_cons_zero, List.getElem?_cons_succ, dR.eq_20, Mem.cell, Mem.row, wmA, t3, rc73_0, w1]
        exact next (by simp [wq, hle]) _ (by simp) (by simp)
      | false =>
        by_cases hj0 : 0 < j
        · have hj0' : (0 : Int) < (j : Int) := by omega
          simp -implicitDefEqProofs (disch := first | assumption | (simp only [wnA]; done) | (simp only [wnA]; omega) | omega | fail) [wkA, retV, stabOk, dC, ev, fillD, pickCells, putAt, bnd, slD, List.getElem?_cons_zero, List.getElem?_cons_succ, dR.eq_20, Mem.cell, Mem.row, wmA, t0, t3, hj0, hj0', g1, getOf g1, hlt]
          refine c_digit ?_
          cases hdi : isDig c with
          | true =>
            simp -implicitDefEqProofs (disch := first | assumption | (simp only [wnA]; done) | (simp only [wnA]; omega) | omega | fail) [wkA, retV, stabOk, dC, ev, fillD, pickCells, putAt, bnd, slD, List.getElem?_cons_zero, List.getElem?_cons_succ, dR.eq_20, Mem.cell, Mem.row, wmA, t3, rc73_0, w1]
            exact next (by simp [wq, hle, hdi, hj0]) _ (by simp) (by simp)
          | false =>
            by_cases h45 : c.toNat = 45
            · have i45 : (c.toNat : Int) = 45 := by omega
              simp -implicitDefEqProofs (disch := first | assumption | (simp only [wnA]; done) | (simp only [wnA]; omega) | omega | fail) [wkA, retV, stabOk, dC, ev, fillD, pickCells, putAt, bnd, slD, List.getElem?_cons_zero, List.getElem?_cons_succ, dR.eq_20, Mem.cell, Mem.row, wmA, t0, t3, g1, getOf g1, hlt, i45, rc73_0, w1]
              exact next (by simp [wq, hle, hdi, hj0, h45]) _ (by simp) (by simp)
            · have i45 : ¬ (c.toNat : Int) = 45 := by omega
              simp -implicitDefEqProofs (disch := first | assumption | (simp only [wnA]; done) | (simp only [wnA]; omega) | omega | fail) [wkA, retV, stabOk, dC, ev, fillD, pickCells, putAt, bnd, slD, List.getElem?_cons_zero, List.getElem?_cons_succ, dR.eq_20, Mem.cell, Mem.row, wmA, t0, t3, g1, getOf g1, hlt, beqF i45, rc73_2]
              exact stop (by simp [wq, hle, hdi, h45])
        · have hj0' : ¬ (0 : Int) < (j : Int) := by omega
          simp -implicitDefEqProofs (disch := first | assumption | (simp only [wnA]; done) | (simp only [wnA]; omega) | omega | fail) [wkA, retV, stabOk, dC, ev, fillD, pickCells, putAt, bnd, slD, List.getElem?_cons_zero, List.getElem?_cons_succ, dR.eq_20, Mem.cell, Mem.row, wmA, t0, t3, hj0, hj0', rc73_2]
          exact stop (by simp [wq, hle, hj0])
end Go.Proofs.YtjlicambfepfiaaGreatDoor.Ab
set_option linter.unusedVariables false
set_option linter.unusedSimpArgs false
namespace Go.Proofs.YtjlicambfepfiaaGreatDoor.Ab
open Go Go.RowKit
set_option maxHeartbeats 1000000
set_option maxRecDepth 100000
theorem c_iByte {w0 : World} {m : Mem} {s : ByteArray} {c : UInt8} {Q : Value → Mem → Prop} (hq : Q (.int .i64 (Lib.indexByte s.data.toList c)) m) : AbC Tryz.prog w0 77 [.string s, .int .u8 (c.toNat : Int)] m Q := by
  refine AbC_fn ok77 (by simp) ?_
  simp -implicitDefEqProofs (disch := first | assumption | (simp only [wnA]; done) | (simp only [wnA]; omega) | omega | fail) [rc77, ro77, wkA, retV, stabOk, dC, ev, fillD, pickCells, putAt, bnd, slD, List.getElem?_cons_zero, List.getElem?_cons_succ, dR.eq_20, Mem.cell, Mem.row, wmA]
  refine AbC_fn ok92 (by simp) ?_
  simp -implicitDefEqProofs (disch := first | assumption | (simp only [wnA]; done) | (simp only [wnA]; omega) | omega | fail) [rc92, ro92, wkA, retV, stabOk, dC, ev, fillD, pickCells, putAt, bnd, slD, List.getElem?_cons_zero, List.getElem?_cons_succ, dR.eq_20, Mem.cell, Mem.row, wmA]
  refine x_idx xis104 ?_
  have e : ((c.toNat : Int)).toNat.toUInt8 = c := by
    show UInt8.ofNat ((c.toNat : Int)).toNat = c
    rw [Int.toNat_natCast]; simp
  rw [e]
  simp -implicitDefEqProofs (disch := first | assumption | (simp only [wnA]; done) | (simp only [wnA]; omega) | omega | fail) [wkA, retV, stabOk, dC, ev, fillD, pickCells, putAt, bnd, slD, List.getElem?_cons_zero, List.getElem?_cons_succ, dR.eq_20, Mem.cell, Mem.row, wmA]
  exact hq
theorem c_pre {w0 : World} {m : Mem} {s : ByteArray} {Q : Value → Mem → Prop} (hq : Q (.bool (hexH s.data.toList)) m) : AbC Tryz.prog w0 89 [.string s, .string ⟨#[48, 120]⟩] m Q := by
  refine AbC_fn ok89 (by simp) ?_
  simp -implicitDefEqProofs (disch := first | assumption | (simp only [wnA]; done) | (simp only [wnA]; omega) | omega | fail) [rc89, ro89, wkA, retV, stabOk, dC, ev, fillD, pickCells, putAt, bnd, slD, List.getElem?_cons_zero, List.getElem?_cons_succ, dR.eq_20, Mem.cell, Mem.row, wmA]
  refine AbC_fn ok100 (by simp) ?_
  have h2 : (ByteArray.mk #[48, 120]).size = 2 := rfl
  have hl : s.data.toList.length = s.size := by simp
  simp -implicitDefEqProofs (disch := first | assumption | (simp only [wnA]; done) | (simp only [wnA]; omega) | omega | fail) [rc100, ro100, wkA, retV, stabOk, dC, ev, fillD, pickCells, putAt, bnd, slD, List.getElem?_cons_zero, List.getElem?_cons_succ, dR.eq_20, Mem.cell, Mem.row, wmA, h2]
  have hq' := fun b (h : hexH s.data.toList = b) => h ▸ hq
  by_cases h : 2 ≤ s.size
  · have hi : (2 : Int) ≤ (s.size : Int) := by omega
    obtain ⟨a, b, r, hr⟩ : ∃ a b r, s.data.toList = a :: b :: r := by
      match s.data.toList, hl with
      | a :: b :: r, _ => exact ⟨a, b, r, rfl⟩
      | [], e => simp at e; omega
      | [_], e => simp at e; omega
    have hx : s.extract 0 2 = ⟨⟨[a, b]⟩⟩ := by rw [Lib.extract_eq, hr]; rfl
    simp -implicitDefEqProofs (disch := first | assumption | (simp only [wnA]; done) | (simp only [wnA]; omega) | omega | fail) [wkA, retV, stabOk, dC, ev, fillD, pickCells, putAt, bnd, slD, List.getElem?_cons_zero, List.getElem?_cons_succ, dR.eq_20, Mem.cell, Mem.row, wmA, h2, h, hi, hx]
    refine hq' _ ?_
    rw [hr]
    simp only [hexH]
    rw [Bool.eq_iff_iff]
    simp
    constructor
    · rintro ⟨x, y⟩; exact ⟨UInt8.toNat_inj.1 (by rw [x]; rfl), UInt8.toNat_inj.1 (by rw [y]; rfl)⟩
    · rintro ⟨x, y⟩; rw [x, y]; exact ⟨rfl, rfl⟩
  · have hi : ¬ (2 : Int) ≤ (s.size : Int) := by omega
    simp -implicitDefEqProofs (disch := first | assumption | (simp only [wnA]; done) | (simp only [wnA]; omega) | omega | fail) [wkA, retV, stabOk, dC, ev, fillD, pickCells, putAt, bnd, slD, List.getElem?_cons_zero, List.getElem?_cons_succ, dR.eq_20, Mem.cell, Mem.row, wmA, h2, h, hi]
    refine hq' _ ?_
    match hs : s.data.toList, hl with
    | [], _ => rfl
    | [_], _ => rfl
    | a :: b :: r, e => simp at e; omega
def sgS (B : Nat) : ByteArray := if B = 16 then ⟨#[48, 49, 50, 51, 52, 53, 54, 55, 56, 57, 97, 98, 99, 100, 101, 102]⟩ else ⟨#[48, 49, 50, 51, 52, 53, 54, 55, 56, 57]⟩
theorem sg10 (c : UInt8) : decide (0 ≤ Lib.indexByte (sgS 10).data.toList c) = inB 10 c :=
  beq_iff_eq.1 (allB (p := fun c => decide (0 ≤ Lib.indexByte (sgS 10).data.toList c) == inB 10 c) (by decide +kernel) c)
theorem sg16 (c : UInt8) : decide (0 ≤ Lib.indexByte (sgS 16).data.toList c) = inB 16 c :=
  beq_iff_eq.1 (allB (p := fun c => decide (0 ≤ Lib.indexByte (sgS 16).data.toList c) == inB 16 c) (by decide +kernel) c)
theorem sg_in {B : Nat} (h : B = 10 ∨ B = 16) (c : UInt8) : decide (0 ≤ Lib.indexByte (sgS B).data.toList c) = inB B c := by
  rcases h with rfl | rfl
  · exact sg10 c
  · exact sg16 c
theorem puL_le {B M : Nat} : ∀ (l : List UInt8) (n v : Nat), n ≤ M → puL B M n l = some v → v ≤ M
  | [], n, v, h, e => by simp [puL] at e; omega
  | c :: l, n, v, h, e => by
    simp only [puL] at e
    split at e
    · rename_i n' hs
      refine puL_le l n' v ?_ e
      unfold puStep at hs
      split at hs
      · split at hs
        · simp at hs; omega
        · cases hs
      · cases hs
    · cases e
theorem nB_or (l : List UInt8) : nB l = 10 ∨ nB l = 16 := by unfold nB; split <;> simp
theorem w_num3 {w0 : World} {m : Mem} {ts : Fr} {S : ByteArray} {Q : AQ} (hp : Part L0 m) (ht : Ten w0) (hE : ErrV w0) (hs : S.size ≤ 140737488355328)
    (t0 : ts 0 = .string S) (t5 : ts 5 = .int .i64 (nB S.data.toList : Nat)) (t6 : ts 6 = .int .i64 (nF S.data.toList : Nat)) (t8 : ts 8 = .int .i64 (nN S.data.toList : Nat))
    (h0 : ∀ ts' m', Old m m' → ts' 2 = .int .i64 0 → ts' 3 = .int .i64 0 → ts' 4 = .bool false → numV S.data.toList = none → Q .ret ts' m')
    (h1 : ∀ ts' m' v, Old m m' → ts' 2 = .int .i64 (nN S.data.toList : Nat) → ts' 3 = .int .i64 (v : Nat) → ts' 4 = .bool true → numV S.data.toList = some v → Q .ret ts' m') :
    AbW Tryz.prog w0 rc75_3 Q ts m := by
  have hB := nB_or S.data.toList
  have hl : S.data.toList.length = S.size := by simp
  have hfl := nF_le S.data.toList
  have hnl := nN_le S.data.toList
  have hfn : nF S.data.toList ≤ nN S.data.toList := by unfold nN; omega
  have hx : S.extract (nF S.data.toList) (nN S.data.toList) = ⟨⟨nDs S.data.toList⟩⟩ := by
    rw [Lib.extract_eq]
    unfold nDs
    rw [List.drop_take]
  have hx2 : (S.extract (nN S.data.toList) S.size).data.toList = S.data.toList.drop (nN S.data.toList) := by
    rw [Lib.extract_eq]
    show List.take _ _ = _
    exact List.take_of_length_le (by rw [List.length_drop]; omega)
  have hdl : (nDs S.data.toList).length ≤ S.size := by unfold nDs; rw [List.length_drop, List.length_take]; omega
  have hv : numV S.data.toList = match puL (nB S.data.toList) 4294967295 0 (nDs S.data.toList) with
      | some v => if digs (nB S.data.toList) v = nDs S.data.toList ∧ wordN false (S.data.toList.drop (nN S.data.toList)) = 0 then some v else none
      | none => none := rfl
  rw [hv] at h0
  have hv1 : ∀ v, puL (nB S.data.toList) 4294967295 0 (nDs S.data.toList) = some v → digs (nB S.data.toList) v = nDs S.data.toList → wordN false (S.data.toList.drop (nN S.data.toList)) = 0 → numV S.data.toList = some v := fun v a b c => by
    rw [hv, a]; simp [b, c]
  clear hv
  have hxs : (S.extract (nN S.data.toList) S.size).size ≤ 140737488355328 := by simp; omega
  generalize hNN : nN S.data.toList = N at *
  generalize hFF : nF S.data.toList = F at *
  generalize nB S.data.toList = B at *
  generalize nDs S.data.toList = D at *
  have c1 : (F : Int) ≤ (N : Int) := by omega
  have c2 : N ≤ S.size := by omega
  have c3 : (N : Int) ≤ (S.size : Int) := by omega
  simp -implicitDefEqProofs (disch := first | assumption | (simp only [wnA]; done) | (simp only [wnA]; omega) | omega | fail) [rc75_3, wkA, retV, stabOk, dC, ev, fillD, pickCells, putAt, bnd, slD, List.getElem?_cons_zero, List.getElem?_cons_succ, dR.eq_20, Mem.cell, Mem.row, wmA, t0, t5, t6, t8, c1, c2, c3, hfn, hx]
  refine c_ParseUint (B := B) (bits := 32) (M := 4294967295) (s := ⟨⟨D⟩⟩) hE (by omega) (.inl ⟨rfl, rfl⟩) (by show D.length ≤ _; omega) (fun m1 v p o1 hn => ?_) fun m1 v o1 hz hv => ?_
  · simp -implicitDefEqProofs (disch := first | assumption | (simp only [wnA]; done) | (simp only [wnA]; omega) | omega | fail) [wkA, retV, stabOk, dC, ev, fillD, pickCells, putAt, bnd, slD, List.getElem?_cons_zero, List.getElem?_cons_succ, dR.eq_20, Mem.cell, Mem.row, wmA, t0, t5, t6, t8]
    refine h0 _ _ o1 (by simp) (by simp) (by simp) ?_
    rcases hn with hn | hn
    · have hD : D = [] := by
        have : D.length = 0 := hn
        simpa using this
      subst hD
      have hne : ∀ v, ¬ digs B v = [] := fun v e => by have := digs_pos B v; rw [e] at this; simp at this
      split
      · rw [if_neg (fun h => hne _ h.1)]
      · rfl
    · have hn : puL B 4294967295 0 D = none := hn
      rw [hn]
  · have hv : puL B 4294967295 0 D = some v := hv
    have hvM := puL_le D 0 v (by omega) hv
    rw [hv] at h0
    have wv : IntKind.i64.wrap (v : Int) = (v : Int) := w64 (by omega)
    simp -implicitDefEqProofs (disch := first | assumption | (simp only [wnA]; done) | (simp only [wnA]; omega) | omega | fail) [wkA, retV, stabOk, dC, ev, fillD, pickCells, putAt, bnd, slD, List.getElem?_cons_zero, List.getElem?_cons_succ, dR.eq_20, Mem.cell, Mem.row, wmA, t0, t5, t6, t8, c1, c2, c3, hfn, hx]
    refine c_FormatUint (o1.part hp) ht (by omega) (by omega) fun m2 o2 => ?_
    have oo2 := o1.trans o2
    by_cases hd : digs B v = D
    · simp -implicitDefEqProofs (disch := first | assumption | (simp only [wnA]; done) | (simp only [wnA]; omega) | omega | fail) [wkA, retV, stabOk, dC, ev, fillD, pickCells, putAt, bnd, slD, List.getElem?_cons_zero, List.getElem?_cons_succ, dR.eq_20, Mem.cell, Mem.row, wmA, t0, t5, t6, t8, c1, c2, c3, hfn, hx, hd]
      refine c_word hxs ?_
      rw [hx2]
      by_cases hw : wordN false (S.data.toList.drop N) = 0
      · have e0 : ((wordN false (S.data.toList.drop N) : Nat) : Int) = 0 := by omega
        rw [e0]
        simp -implicitDefEqProofs (disch := first | assumption | (simp only [wnA]; done) | (simp only [wnA]; omega) | omega | fail) [wkA, retV, stabOk, dC, ev, fillD, pickCells, putAt, bnd, slD, List.getElem?_cons_zero, List.getElem?_cons_succ, dR.eq_20, Mem.cell, Mem.row, wmA, t8, rc75_2, wv]
        exact h1 _ _ v oo2 (by simp) (by simp) (by simp) (hv1 v hv hd hw)
      · have e0 : (0 : Int) < ((wordN false (S.data.toList.drop N) : Nat) : Int) := by omega
        have e1 : 0 < wordN false (S.data.toList.drop N) := by omega
        simp -implicitDefEqProofs (disch := first | assumption | (simp only [wnA]; done) | (simp only [wnA]; omega) | omega | fail) [wkA, retV, stabOk, dC, ev, fillD, pickCells, putAt, bnd, slD, List.getElem?_cons_zero, List.getElem?_cons_succ, dR.eq_20, Mem.cell, Mem.row, wmA, e0, e1]
        exact h0 _ _ oo2 (by simp) (by simp) (by simp) (by simp [hw])
    · have hd' : (digs B v == D) = false := by simpa using hd
      simp -implicitDefEqProofs (disch := first | assumption | (simp only [wnA]; done) | (simp only [wnA]; omega) | omega | fail) [wkA, retV, stabOk, dC, ev, fillD, pickCells, putAt, bnd, slD, List.getElem?_cons_zero, List.getElem?_cons_succ, dR.eq_20, Mem.cell, Mem.row, wmA, t0, t5, t6, t8, c1, c2, c3, hfn, hx, hd, hd']
      refine h0 _ _ oo2 ?_ ?_ ?_ (by simp [hd])
      · simp
      · simp
      · simp
theorem w_num {w0 : World} {m : Mem} {ts : Fr} {S : ByteArray} {Q : AQ} (hp : Part L0 m) (ht : Ten w0) (hE : ErrV w0) (hs : S.size ≤ 140737488355328)
    (t0 : ts 0 = .string S) (t5 : ts 5 = .int .i64 (nB S.data.toList : Nat)) (t6 : ts 6 = .int .i64 (nF S.data.toList : Nat)) (t7 : ts 7 = .string (sgS (nB S.data.toList)))
    (h0 : ∀ ts' m', Old m m' → ts' 2 = .int .i64 0 → ts' 3 = .int .i64 0 → ts' 4 = .bool false → numV S.data.toList = none → Q .ret ts' m')
    (h1 : ∀ ts' m' v, Old m m' → ts' 2 = .int .i64 (nN S.data.toList : Nat) → ts' 3 = .int .i64 (v : Nat) → ts' 4 = .bool true → numV S.data.toList = some v → Q .ret ts' m') :
    AbW Tryz.prog w0 rc75_4 Q ts m := by
  have hB := nB_or S.data.toList
  have hl : S.data.toList.length = S.size := by simp
  have hfl := nF_le S.data.toList
  have hnl := nN_le S.data.toList
  simp -implicitDefEqProofs (disch := first | assumption | (simp only [wnA]; done) | (simp only [wnA]; omega) | omega | fail) [rc75_4, wkA, retV, stabOk, dC, ev, fillD, pickCells, putAt, bnd, slD, List.getElem?_cons_zero, List.getElem?_cons_succ, dR.eq_20, Mem.cell, Mem.row, wmA, t6]
  refine LoopW_of (fun k ts' m' => ∃ j, j + k = S.size ∧ m' = m ∧ nF S.data.toList ≤ j ∧ ts' 0 = .string S ∧ ts' 5 = .int .i64 (nB S.data.toList : Nat) ∧ ts' 6 = .int .i64 (nF S.data.toList : Nat) ∧ ts' 7 = .string (sgS (nB S.data.toList)) ∧ ts' 8 = .int .i64 (j : Nat) ∧ nN S.data.toList = j + runN (inB (nB S.data.toList)) (S.data.toList.drop j)) (S.size - nF S.data.toList) ?_ ?_
  · exact ⟨nF S.data.toList, by omega, rfl, Nat.le_refl _, by simp [t0], by simp [t5], by simp [t6], by simp [t7], by simp, rfl⟩
  · rintro k ts2 m2 K ⟨j, hj, rfl, hfj, s0, s5, s6, s7, s8, hn'⟩ hK
    have hend : runN (inB (nB S.data.toList)) (S.data.toList.drop j) = 0 → AbW Tryz.prog w0 rc75_3 Q ts2 m2 := fun hz => w_num3 hp ht hE hs s0 s5 s6 (by rw [s8, hn', hz, Nat.add_zero]) h0 h1
    simp -implicitDefEqProofs (disch := first | assumption | (simp only [wnA]; done) | (simp only [wnA]; omega) | omega | fail) [rc75_1, wkA, retV, stabOk, dC, ev, fillD, pickCells, putAt, bnd, slD, List.getElem?_cons_zero, List.getElem?_cons_succ, dR.eq_20, Mem.cell, Mem.row, wmA, s0, s8]
    rcases hd : S.data.toList.drop j with _ | ⟨c, r⟩
    · have hjj := drop_nil hd (by omega)
      have hn : ¬ j < S.size := by omega
      have hend := w_num3 (w0 := w0) (m := m2) (ts := upd (upd (upd (upd (upd (upd (upd (upd (upd (upd (upd (upd ts2 14 (.int .i64 (j : Nat))) 15 (.string S)) 16 (.int .i64 (S.size : Nat))) 17 (.bool false)) 18 (.bool false)) 19 undef) 20 undef) 21 undef) 22 undef) 23 undef) 24 undef) 25 (.bool false)) hp ht hE hs (by simp [s0]) (by simp [s5]) (by simp [s6]) (by rw [hn', hd]; simp [s8, runN]) h0 h1
      simp -implicitDefEqProofs (disch := first | assumption | (simp only [wnA]; done) | (simp only [wnA]; omega) | omega | fail) [wkA, retV, stabOk, dC, ev, fillD, pickCells, putAt, bnd, slD, List.getElem?_cons_zero, List.getElem?_cons_succ, dR.eq_20, Mem.cell, Mem.row, wmA, s0, s8, hn]
      exact hend
    · obtain ⟨hlt, g1, hr⟩ := at_S hd
      simp -implicitDefEqProofs (disch := first | assumption | (simp only [wnA]; done) | (simp only [wnA]; omega) | omega | fail) [wkA, retV, stabOk, dC, ev, fillD, pickCells, putAt, bnd, slD, List.getElem?_cons_zero, List.getElem?_cons_succ, dR.eq_20, Mem.cell, Mem.row, wmA, s0, s7, s8, hlt, g1, getOf g1]
      refine c_iByte ?_
      have hin := sg_in hB c
      have w1 : IntKind.i64.wrap ((j : Int) + 1) = ((j + 1 : Nat) : Int) := by rw [w64 (by omega)]; omega
      rw [hd] at hn' hend
      cases hc : inB (nB S.data.toList) c with
      | true =>
        rw [hc] at hin
        have hin := of_decide_eq_true hin
        simp -implicitDefEqProofs (disch := first | assumption | (simp only [wnA]; done) | (simp only [wnA]; omega) | omega | fail) [wkA, retV, stabOk, dC, ev, fillD, pickCells, putAt, bnd, slD, List.getElem?_cons_zero, List.getElem?_cons_succ, dR.eq_20, Mem.cell, Mem.row, wmA, hin, s8, rc75_0, w1]
        exact hK (k - 1) _ m2 (by omega) ⟨j + 1, by omega, rfl, by omega, by simp [s0], by simp [s5], by simp [s6], by simp [s7], by simp, by rw [hn', hr]; simp only [runN, hc, if_true]; omega⟩
      | false =>
        rw [hc] at hin
        have hin := of_decide_eq_false hin
        have hend := w_num3 (w0 := w0) (m := m2) (ts := upd (upd (upd (upd (upd (upd (upd (upd (upd (upd (upd (upd ts2 14 (.int .i64 (j : Nat))) 15 (.string S)) 16 (.int .i64 (S.size : Nat))) 17 (.bool true)) 18 (.bool true)) 19 (.string (sgS (nB S.data.toList)))) 20 (.string S)) 21 (.int .i64 (j : Nat))) 22 (.int .u8 (c.toNat : Int))) 23 (.int .i64 (Lib.indexByte (sgS (nB S.data.toList)).data.toList c))) 24 (.bool false)) 25 (.bool false)) hp ht hE hs (by simp [s0]) (by simp [s5]) (by simp [s6]) (by rw [hn']; simp [s8, runN, hc]) h0 h1
        simp -implicitDefEqProofs (disch := first | assumption | (simp only [wnA]; done) | (simp only [wnA]; omega) | omega | fail) [wkA, retV, stabOk, dC, ev, fillD, pickCells, putAt, bnd, slD, List.getElem?_cons_zero, List.getElem?_cons_succ, dR.eq_20, Mem.cell, Mem.row, wmA, hin, s8]
        exact hend
theorem c_tnum {w0 : World} {m : Mem} {S : ByteArray} {Q : Value → Mem → Prop} (hp : Part L0 m) (ht : Ten w0) (hE : ErrV w0) (hs : S.size ≤ 140737488355328)
    (h0 : ∀ m', Old m m' → numV S.data.toList = none → Q (.tuple ⟨[.int .i64 0, .int .i64 0, .bool false]⟩) m')
    (h1 : ∀ m' v, Old m m' → numV S.data.toList = some v → Q (.tuple ⟨[.int .i64 (nN S.data.toList : Nat), .int .i64 (v : Nat), .bool true]⟩) m') :
    AbC Tryz.prog w0 75 [.string S] m Q := by
  refine AbC_fn ok75 (by simp) ?_
  have r0 : ∀ ts' m', Old m m' → ts' 2 = .int .i64 0 → ts' 3 = .int .i64 0 → ts' 4 = .bool false → numV S.data.toList = none → bodyA ro75 Q .ret ts' m' := fun ts' m' o e2 e3 e4 hn => by
    simp -implicitDefEqProofs (disch := first | assumption | (simp only [wnA]; done) | (simp only [wnA]; omega) | omega | fail) [ro75, wkA, retV, stabOk, dC, ev, fillD, pickCells, putAt, bnd, slD, List.getElem?_cons_zero, List.getElem?_cons_succ, dR.eq_20, Mem.cell, Mem.row, wmA, e2, e3, e4]
    exact h0 m' o hn
  have r1 : ∀ ts' m' (v : Nat), Old m m' → ts' 2 = .int .i64 (nN S.data.toList : Nat) → ts' 3 = .int .i64 (v : Nat) → ts' 4 = .bool true → numV S.data.toList = some v → bodyA ro75 Q .ret ts' m' := fun ts' m' v o e2 e3 e4 hn => by
    simp -implicitDefEqProofs (disch := first | assumption | (simp only [wnA]; done) | (simp only [wnA]; omega) | omega | fail) [ro75, wkA, retV, stabOk, dC, ev, fillD, pickCells, putAt, bnd, slD, List.getElem?_cons_zero, List.getElem?_cons_succ, dR.eq_20, Mem.cell, Mem.row, wmA, e2, e3, e4]
    exact h1 m' v o hn
  simp -implicitDefEqProofs (disch := first | assumption | (simp only [wnA]; done) | (simp only [wnA]; omega) | omega | fail) [rc75, wkA, retV, stabOk, dC, ev, fillD, pickCells, putAt, bnd, slD, List.getElem?_cons_zero, List.getElem?_cons_succ, dR.eq_20, Mem.cell, Mem.row, wmA]
  refine c_pre ?_
  cases hh : hexH S.data.toList with
  | true =>
    have eB : nB S.data.toList = 16 := by simp [nB, hh]
    have eF : nF S.data.toList = 2 := by simp [nF, hh]
    simp -implicitDefEqProofs (disch := first | assumption | (simp only [wnA]; done) | (simp only [wnA]; omega) | omega | fail) [wkA, retV, stabOk, dC, ev, fillD, pickCells, putAt, bnd, slD, List.getElem?_cons_zero, List.getElem?_cons_succ, dR.eq_20, Mem.cell, Mem.row, wmA]
    exact w_num hp ht hE hs (by simp [frA_at]) (by rw [eB]; simp) (by rw [eF]; simp) (by rw [eB]; simp [sgS]) r0 r1
  | false =>
    have eB : nB S.data.toList = 10 := by simp [nB, hh]
    have eF : nF S.data.toList = 0 := by simp [nF, hh]
    simp -implicitDefEqProofs (disch := first | assumption | (simp only [wnA]; done) | (simp only [wnA]; omega) | omega | fail) [wkA, retV, stabOk, dC, ev, fillD, pickCells, putAt, bnd, slD, List.getElem?_cons_zero, List.getElem?_cons_succ, dR.eq_20, Mem.cell, Mem.row, wmA]
    exact w_num hp ht hE hs (by simp [frA_at]) (by rw [eB]; simp) (by rw [eF]; simp) (by rw [eB]; simp [sgS]) r0 r1
end Go.Proofs.YtjlicambfepfiaaGreatDoor.Ab
set_option linter.unusedVariables false
set_option linter.unusedSimpArgs false
namespace Go.Proofs.YtjlicambfepfiaaGreatDoor.Ab
open Go Go.RowKit
set_option maxHeartbeats 1000000
set_option maxRecDepth 100000
def escS : List UInt8 := [92, 34, 114, 110]
theorem esc_no (c : UInt8) : decide (Lib.indexByte escS c < 0) = (escD c).isNone :=
  beq_iff_eq.1 (allB (p := fun c => decide (Lib.indexByte escS c < 0) == (escD c).isNone) (by decide +kernel) c)
theorem esc_in {c x : UInt8} (h : escD c = some x) : (c.toNat = 114 ∧ x = 13) ∨ (c.toNat ≠ 114 ∧ c.toNat = 110 ∧ x = 10) ∨ (c.toNat ≠ 114 ∧ c.toNat ≠ 110 ∧ x = c) := by
  unfold escD at h
  split at h
  · rename_i hc
    simp at h; subst h
    exact .inr (.inr ⟨by omega, by omega, UInt8.toNat_inj.1 (by rw [hc]; rfl)⟩)
  · split at h
    · rename_i hc
      simp at h; subst h
      exact .inr (.inr ⟨by omega, by omega, UInt8.toNat_inj.1 (by rw [hc]; rfl)⟩)
    · split at h
      · simp at h; subst h
        exact .inl ⟨by assumption, rfl⟩
      · split at h
        · simp at h; subst h
          exact .inr (.inl ⟨by assumption, by assumption, rfl⟩)
        · cases h
theorem qd_q {c : UInt8} {r : List UInt8} (h : c.toNat = 34) : qd (c :: r) = some (1, []) := by
  cases r <;> simp [qd, h]
theorem qd_bad {c : UInt8} {r : List UInt8} (h : c.toNat < 32 ∨ 126 < c.toNat) : qd (c :: r) = none := by
  have h34 : ¬ c.toNat = 34 := by omega
  cases r <;> simp [qd, h, h34]
theorem qd_ch {c : UInt8} {r : List UInt8} (h : ¬ (c.toNat < 32 ∨ 126 < c.toNat)) (h34 : c.toNat ≠ 34) (h92 : c.toNat ≠ 92) : qd (c :: r) = (qd r).map fun p => (p.1 + 1, c :: p.2) := by
  cases r with
  | nil => simp [qd, h34]
  | cons e r => simp [qd, h, h34, h92]
theorem qd_e0 {c : UInt8} (h : c.toNat = 92) : qd [c] = none := by simp [qd, h]
theorem qd_e1 {c e : UInt8} {r : List UInt8} (h : c.toNat = 92) (he : escD e = none) : qd (c :: e :: r) = none := by simp [qd, h, he]
theorem qd_e2 {c e x : UInt8} {r : List UInt8} (h : c.toNat = 92) (he : escD e = some x) : qd (c :: e :: r) = (qd r).map fun p => (p.1 + 2, x :: p.2) := by simp [qd, h, he]
theorem c_tquo {w0 : World} {m : Mem} {S : ByteArray} {Q : Value → Mem → Prop} (hs1 : 1 ≤ S.size) (hs : S.size ≤ 1000000000)
    (h0 : ∀ m', Old m m' → qd (S.data.toList.drop 1) = none → Q (.tuple ⟨[.int .i64 0, .string ⟨#[]⟩, .bool false]⟩) m')
    (h1 : ∀ m' n t, Old m m' → qd (S.data.toList.drop 1) = some (n, t) → Q (.tuple ⟨[.int .i64 (n + 1 : Nat), .string ⟨⟨t⟩⟩, .bool true]⟩) m') :
    AbC Tryz.prog w0 76 [.string S] m Q := by
  refine AbC_fn ok76 (by simp) ?_
  simp -implicitDefEqProofs (disch := first | assumption | (simp only [wnA]; done) | (simp only [wnA]; omega) | omega | fail) [rc76, ro76, wkA, retV, stabOk, dC, ev, fillD, pickCells, putAt, bnd, slD, List.getElem?_cons_zero, List.getElem?_cons_succ, dR.eq_20, Mem.cell, Mem.row, wmA]
  have r0 : ∀ (ts' : Fr) m', Old m m' → ts' 2 = .int .i64 0 → ts' 3 = .string ⟨#[]⟩ → ts' 4 = .bool false → qd (S.data.toList.drop 1) = none → bodyA ro76 Q .ret ts' m' := fun ts' m' o e2 e3 e4 hn => by
    simp -implicitDefEqProofs (disch := first | assumption | (simp only [wnA]; done) | (simp only [wnA]; omega) | omega | fail) [ro76, wkA, retV, stabOk, dC, ev, fillD, pickCells, putAt, bnd, slD, List.getElem?_cons_zero, List.getElem?_cons_succ, dR.eq_20, Mem.cell, Mem.row, wmA, e2, e3, e4]
    exact h0 m' o hn
  simp only [ro76] at r0
  refine LoopW_of (fun k ts m' => ∃ j out, j + k = S.size ∧ 1 ≤ j ∧ out.length < j ∧ ts 0 = .string S ∧ ts 6 = .int .i64 (j : Nat) ∧ ts 5 = .pointer (some ⟨m.next, 0, none⟩) ∧ Bld m m' m.next out ∧ qd (S.data.toList.drop 1) = (qd (S.data.toList.drop j)).map fun p => (p.1 + (j - 1), out ++ p.2)) (S.size - 1) ?_ ?_
  · exact ⟨1, [], by omega, by omega, by simp, by simp [frA_at], by simp, by simp, Bld.new (Old.refl m), by simp⟩
  · rintro k ts m2 K ⟨j, out, hj, hj1, hol, t0, t6, t5, hb, hqd⟩ hK
    simp -implicitDefEqProofs (disch := first | assumption | (simp only [wnA]; done) | (simp only [wnA]; omega) | omega | fail) [rc76_3, wkA, retV, stabOk, dC, ev, fillD, pickCells, putAt, bnd, slD, List.getElem?_cons_zero, List.getElem?_cons_succ, dR.eq_20, Mem.cell, Mem.row, wmA, t0, t6]
    rcases hd : S.data.toList.drop j with _ | ⟨c, r⟩
    · have hjj := drop_nil hd (by omega)
      have hn : ¬ j < S.size := by omega
      rw [hd] at hqd
      simp -implicitDefEqProofs (disch := first | assumption | (simp only [wnA]; done) | (simp only [wnA]; omega) | omega | fail) [wkA, retV, stabOk, dC, ev, fillD, pickCells, putAt, bnd, slD, List.getElem?_cons_zero, List.getElem?_cons_succ, dR.eq_20, Mem.cell, Mem.row, wmA, t0, t6, hn, rc76_4]
      exact h0 m2 hb.1 (by rw [hqd]; rfl)
    · obtain ⟨hlt, g1, hr⟩ := at_S hd
      rw [hd] at hqd
      have hjw : IntKind.i64.wrap ((j : Int) + 1) = ((j + 1 : Nat) : Int) := by rw [w64 (by omega)]; omega
      have hjw2 : IntKind.i64.wrap (((j + 1 : Nat) : Int) + 1) = ((j + 2 : Nat) : Int) := by rw [w64 (by omega)]; omega
      have hob : out.length + 1 ≤ 140737488355328 := by omega
      by_cases h34 : c.toNat = 34
      · have i34 : (c.toNat : Int) = 34 := by omega
        simp -implicitDefEqProofs (disch := first | assumption | (simp only [wnA]; done) | (simp only [wnA]; omega) | omega | fail) [wkA, retV, stabOk, dC, ev, fillD, pickCells, putAt, bnd, slD, List.getElem?_cons_zero, List.getElem?_cons_succ, dR.eq_20, Mem.cell, Mem.row, wmA, t0, t5, t6, hlt, g1, getOf g1, rc76_2, i34, hjw]
        refine c_BString hb (by omega) fun m3 h3 => ?_
        simp -implicitDefEqProofs (disch := first | assumption | (simp only [wnA]; done) | (simp only [wnA]; omega) | omega | fail) [wkA, retV, stabOk, dC, ev, fillD, pickCells, putAt, bnd, slD, List.getElem?_cons_zero, List.getElem?_cons_succ, dR.eq_20, Mem.cell, Mem.row, wmA]
        have := h1 m3 j out h3 (by rw [hqd, qd_q h34]; simp; omega)
        exact this
      · have i34 : ¬ (c.toNat : Int) = 34 := by omega
        by_cases hbad : c.toNat < 32 ∨ 126 < c.toNat
        · have hno : qd (S.data.toList.drop 1) = none := by rw [hqd, qd_bad hbad]; rfl
          by_cases h32 : c.toNat < 32
          · have i32 : (c.toNat : Int) < 32 := by omega
            simp -implicitDefEqProofs (disch := first | assumption | (simp only [wnA]; done) | (simp only [wnA]; omega) | omega | fail) [wkA, retV, stabOk, dC, ev, fillD, pickCells, putAt, bnd, slD, List.getElem?_cons_zero, List.getElem?_cons_succ, dR.eq_20, Mem.cell, Mem.row, wmA, t0, t5, t6, hlt, g1, getOf g1, rc76_2, beqF i34, ltT i32]
            exact h0 m2 hb.1 hno
          · have i32 : (32 : Int) ≤ (c.toNat : Int) := by omega
            have i126 : (126 : Int) < (c.toNat : Int) := by omega
            simp -implicitDefEqProofs (disch := first | assumption | (simp only [wnA]; done) | (simp only [wnA]; omega) | omega | fail) [wkA, retV, stabOk, dC, ev, fillD, pickCells, putAt, bnd, slD, List.getElem?_cons_zero, List.getElem?_cons_succ, dR.eq_20, Mem.cell, Mem.row, wmA, t0, t5, t6, hlt, g1, getOf g1, rc76_2, beqF i34, ltF i32, gtT i126]
            exact h0 m2 hb.1 hno
        · have i32 : (32 : Int) ≤ (c.toNat : Int) := by omega
          have i126 : (c.toNat : Int) ≤ 126 := by omega
          by_cases h92 : c.toNat = 92
          · have i92 : (c.toNat : Int) = 92 := by omega
            rcases r with _ | ⟨e, r⟩
            · have hno : qd (S.data.toList.drop 1) = none := by rw [hqd, qd_e0 h92]; rfl
              have hjs := drop_nil hr (by omega)
              have ijs : (j : Int) + 1 = (S.size : Int) := by omega
              simp -implicitDefEqProofs (disch := first | assumption | (simp only [wnA]; done) | (simp only [wnA]; omega) | omega | fail) [wkA, retV, stabOk, dC, ev, fillD, pickCells, putAt, bnd, slD, List.getElem?_cons_zero, List.getElem?_cons_succ, dR.eq_20, Mem.cell, Mem.row, wmA, t0, t5, t6, hlt, g1, getOf g1, rc76_2, rc76_1, beqF i34, ltF i32, gtF i126, bneF i92, hjw, beqT ijs]
              exact h0 m2 hb.1 hno
            · obtain ⟨hlt2, g2, hr2⟩ := at_S hr
              have ijs : (j : Int) + 1 ≠ (S.size : Int) := by omega
              have hj2 : ((j : Int) + 1).toNat = j + 1 := by omega
              have hj3 : (0 : Int) ≤ (j : Int) + 1 := by omega
              simp -implicitDefEqProofs (disch := first | assumption | (simp only [wnA]; done) | (simp only [wnA]; omega) | omega | fail) [wkA, retV, stabOk, dC, ev, fillD, pickCells, putAt, bnd, slD, List.getElem?_cons_zero, List.getElem?_cons_succ, dR.eq_20, Mem.cell, Mem.row, wmA, t0, t5, t6, hlt, g1, getOf g1, rc76_2, rc76_1, beqF i34, ltF i32, gtF i126, bneF i92, hjw, beqF ijs, hlt2, g2, getOf g2, hj2, hj3]
              refine c_iByte ?_
              have hes := esc_no e
              cases he : escD e with
              | none =>
                have hno : qd (S.data.toList.drop 1) = none := by rw [hqd, qd_e1 h92 he]; rfl
                rw [he] at hes
                have hes := of_decide_eq_true hes
                simp only [escS] at hes
                simp -implicitDefEqProofs (disch := first | assumption | (simp only [wnA]; done) | (simp only [wnA]; omega) | omega | fail) [wkA, retV, stabOk, dC, ev, fillD, pickCells, putAt, bnd, slD, List.getElem?_cons_zero, List.getElem?_cons_succ, dR.eq_20, Mem.cell, Mem.row, wmA, hes]
                exact h0 m2 hb.1 hno
              | some x =>
                rw [he] at hes
                have hes2 : (0 : Int) ≤ Lib.indexByte [92, 34, 114, 110] e := by
                  have := of_decide_eq_false hes
                  simp only [escS] at this
                  omega
                have hjw3 : IntKind.i64.wrap ((j : Int) + 1 + 1) = (j : Int) + 1 + 1 := w64 (by omega)
                have fin : ∀ (ts' : Fr) (m' : Mem), ts' 0 = ts 0 → ts' 5 = ts 5 → ts' 6 = .int .i64 ((j : Int) + 1 + 1) → Bld m m' m.next (out ++ [x]) → K ts' m' := fun ts' m' e0 e5 e6 hb' =>
                  hK (k - 2) ts' m' (by omega) ⟨j + 2, out ++ [x], by omega, by omega, by simp; omega, by rw [e0, t0], by rw [e6]; congr 1, by rw [e5, t5], hb', by
                    rw [hqd, qd_e2 h92 he, Option.map_map]
                    have hd2 : S.data.toList.drop (j + 2) = r := hr2
                    rw [hd2]
                    congr 1
                    funext p
                    simp
                    omega⟩
                rcases esc_in he with ⟨a1, rfl⟩ | ⟨a1, a2, rfl⟩ | ⟨a1, a2, rfl⟩
                · have i1 : (e.toNat : Int) = 114 := by omega
                  simp -implicitDefEqProofs (disch := first | assumption | (simp only [wnA]; done) | (simp only [wnA]; omega) | omega | fail) [wkA, retV, stabOk, dC, ev, fillD, pickCells, putAt, bnd, slD, List.getElem?_cons_zero, List.getElem?_cons_succ, dR.eq_20, Mem.cell, Mem.row, wmA, ltF hes2, rc76_0, t0, t5, t6, hlt2, g2, getOf g2, hj2, hj3, i1]
                  refine c_WriteByte (b := 13) hb hob fun m3 h3 => ?_
                  simp -implicitDefEqProofs (disch := first | assumption | (simp only [wnA]; done) | (simp only [wnA]; omega) | omega | fail) [wkA, retV, stabOk, dC, ev, fillD, pickCells, putAt, bnd, slD, List.getElem?_cons_zero, List.getElem?_cons_succ, dR.eq_20, Mem.cell, Mem.row, wmA, hjw3]
                  exact fin _ m3 (by simp) (by simp) (by simp) h3
                · have i1 : ¬ (e.toNat : Int) = 114 := by omega
                  have i2 : (e.toNat : Int) = 110 := by omega
                  simp -implicitDefEqProofs (disch := first | assumption | (simp only [wnA]; done) | (simp only [wnA]; omega) | omega | fail) [wkA, retV, stabOk, dC, ev, fillD, pickCells, putAt, bnd, slD, List.getElem?_cons_zero, List.getElem?_cons_succ, dR.eq_20, Mem.cell, Mem.row, wmA, ltF hes2, rc76_0, t0, t5, t6, hlt2, g2, getOf g2, hj2, hj3, beqF i1, i2]
                  refine c_WriteByte (b := 10) hb hob fun m3 h3 => ?_
                  simp -implicitDefEqProofs (disch := first | assumption | (simp only [wnA]; done) | (simp only [wnA]; omega) | omega | fail) [wkA, retV, stabOk, dC, ev, fillD, pickCells, putAt, bnd, slD, List.getElem?_cons_zero, List.getElem?_cons_succ, dR.eq_20, Mem.cell, Mem.row, wmA, hjw3]
                  exact fin _ m3 (by simp) (by simp) (by simp) h3
                · have i1 : ¬ (x.toNat : Int) = 114 := by omega
                  have i2 : ¬ (x.toNat : Int) = 110 := by omega
                  simp -implicitDefEqProofs (disch := first | assumption | (simp only [wnA]; done) | (simp only [wnA]; omega) | omega | fail) [wkA, retV, stabOk, dC, ev, fillD, pickCells, putAt, bnd, slD, List.getElem?_cons_zero, List.getElem?_cons_succ, dR.eq_20, Mem.cell, Mem.row, wmA, ltF hes2, rc76_0, t0, t5, t6, hlt2, g2, getOf g2, hj2, hj3, beqF i1, beqF i2]
                  refine c_WriteByte hb hob fun m3 h3 => ?_
                  simp -implicitDefEqProofs (disch := first | assumption | (simp only [wnA]; done) | (simp only [wnA]; omega) | omega | fail) [wkA, retV, stabOk, dC, ev, fillD, pickCells, putAt, bnd, slD, List.getElem?_cons_zero, List.getElem?_cons_succ, dR.eq_20, Mem.cell, Mem.row, wmA, hjw3]
                  exact fin _ m3 (by simp) (by simp) (by simp) h3
          · have i92 : ¬ (c.toNat : Int) = 92 := by omega
            simp -implicitDefEqProofs (disch := first | assumption | (simp only [wnA]; done) | (simp only [wnA]; omega) | omega | fail) [wkA, retV, stabOk, dC, ev, fillD, pickCells, putAt, bnd, slD, List.getElem?_cons_zero, List.getElem?_cons_succ, dR.eq_20, Mem.cell, Mem.row, wmA, t0, t5, t6, hlt, g1, getOf g1, rc76_2, beqF i34, ltF i32, gtF i126, bneT i92]
            refine c_WriteByte hb hob fun m3 h3 => ?_
            simp -implicitDefEqProofs (disch := first | assumption | (simp only [wnA]; done) | (simp only [wnA]; omega) | omega | fail) [wkA, retV, stabOk, dC, ev, fillD, pickCells, putAt, bnd, slD, List.getElem?_cons_zero, List.getElem?_cons_succ, dR.eq_20, Mem.cell, Mem.row, wmA, t6, hjw]
            exact hK (k - 1) _ m3 (by omega) ⟨j + 1, out ++ [c], by omega, by omega, by simp; omega, by simp [t0], by simp, by simp [t5], h3, by
              rw [hqd, hr, qd_ch hbad h34 h92, Option.map_map]
              congr 1
              funext p
              simp
              omega⟩
end Go.Proofs.YtjlicambfepfiaaGreatDoor.Ab
set_option linter.unusedVariables false
set_option linter.unusedSimpArgs false
namespace Go.Proofs.YtjlicambfepfiaaGreatDoor.Ab
open Go Go.RowKit
set_option maxHeartbeats 1000000
set_option maxRecDepth 100000
def sgnS : List UInt8 := [58, 59, 44, 123, 125]
theorem sgn_in (c : UInt8) : decide (0 ≤ Lib.indexByte sgnS c) = isSg c :=
  beq_iff_eq.1 (allB (p := fun c => decide (0 ≤ Lib.indexByte sgnS c) == isSg c) (by decide +kernel) c)
theorem ext0 {S : ByteArray} {n : Nat} : S.extract 0 n = ⟨⟨S.data.toList.take n⟩⟩ := by
  rw [Lib.extract_eq]; simp
theorem c_tone {w0 : World} {m : Mem} {S : ByteArray} {Q : Value → Mem → Prop} (hp : Part L0 m) (ht : Ten w0) (hE : ErrV w0) (hs1 : 1 ≤ S.size) (hs : S.size ≤ 1000000)
    (h0 : ∀ m' (t : Tk), Old m m' → oneL S.data.toList = none → Q (.tuple ⟨[.agg ⟨t.cells 0⟩, .int .i64 0]⟩) m')
    (h1 : ∀ m' (t : Tk) (n : Nat), Old m m' → oneL S.data.toList = some (t, n) → Q (.tuple ⟨[.agg ⟨t.cells 0⟩, .int .i64 n]⟩) m') :
    AbC Tryz.prog w0 48 [.string S] m Q := by
  refine AbC_fn ok48 (by simp) ?_
  have hl : S.data.toList.length = S.size := by simp
  obtain ⟨c, r, hr⟩ : ∃ c r, S.data.toList = c :: r := by
    match S.data.toList, hl with
    | c :: r, _ => exact ⟨c, r, rfl⟩
    | [], e => simp at e; omega
  obtain ⟨hlt, g1, hr1⟩ := at_S (S := S) (j := 0) (c := c) (r := r) (by rw [List.drop_zero, hr])
  simp only [Nat.zero_add] at hr1
  have o1 : Old m (m.push (.own [.int .i64 0, .string ⟨#[]⟩, .int .i64 0, .int .i64 0] 87)) := (Old.refl m).push _
  have gT : (m.push (.own [.int .i64 0, .string ⟨#[]⟩, .int .i64 0, .int .i64 0] 87)).get m.next = .own [.int .i64 0, .string ⟨#[]⟩, .int .i64 0, .int .i64 0] 87 := by simp
  have nT : m.next + 1 = (m.push (.own [.int .i64 0, .string ⟨#[]⟩, .int .i64 0, .int .i64 0] 87)).next := by simp
  simp -implicitDefEqProofs (disch := first | assumption | (simp only [wnA]; done) | (simp only [wnA]; omega) | omega | fail) [rc48, ro48, wkA, retV, stabOk, dC, ev, fillD, pickCells, putAt, bnd, slD, List.getElem?_cons_zero, List.getElem?_cons_succ, dR.eq_20, Mem.cell, Mem.row, wmA, hlt, g1, getOf g1]
  generalize m.push (.own [.int .i64 0, .string ⟨#[]⟩, .int .i64 0, .int .i64 0] 87) = m1 at *
  refine c_letter ?_
  cases hle : isLet c with
  | true =>
    have ho : oneL S.data.toList = some (⟨1, S.data.toList.take (wordN false S.data.toList), 0⟩, wordN false S.data.toList) := by rw [hr]; simp [oneL, hle]
    have hwl := wordN_le false S.data.toList
    simp -implicitDefEqProofs (disch := first | assumption | (simp only [wnA]; done) | (simp only [wnA]; omega) | omega | fail) [wkA, retV, stabOk, dC, ev, fillD, pickCells, putAt, bnd, slD, List.getElem?_cons_zero, List.getElem?_cons_succ, dR.eq_20, Mem.cell, Mem.row, wmA]
    refine c_word (by omega) ?_
    generalize wordN false S.data.toList = n at *
    have hn : n ≤ S.size := by omega
    have hn2 : (n : Int) ≤ (S.size : Int) := by omega
    simp -implicitDefEqProofs (disch := first | assumption | (simp only [wnA]; done) | (simp only [wnA]; omega) | omega | fail) [wkA, retV, stabOk, dC, ev, fillD, pickCells, putAt, bnd, slD, List.getElem?_cons_zero, List.getElem?_cons_succ, dR.eq_20, Mem.cell, Mem.row, wmA, hn, hn2, ext0]
    refine SK_st (i := m.next) (o := 0) (by simp [wkA, retV, stabOk, dC, ev, fillD, pickCells, putAt, bnd, slD, List.getElem?_cons_zero, List.getElem?_cons_succ, dR.eq_20]) (e := 87) gT (by simp) (by simp [wkA, retV, stabOk, dC, ev, fillD, pickCells, putAt, bnd, slD, List.getElem?_cons_zero, List.getElem?_cons_succ, dR.eq_20]) (by simp [wkA, retV, stabOk, dC, ev, fillD, pickCells, putAt, bnd, slD, List.getElem?_cons_zero, List.getElem?_cons_succ, dR.eq_20, oneC]) ?_
    simp -implicitDefEqProofs (disch := first | assumption | (simp only [wnA]; done) | (simp only [wnA]; omega) | omega | fail) [wkA, retV, stabOk, dC, ev, fillD, pickCells, putAt, bnd, slD, List.getElem?_cons_zero, List.getElem?_cons_succ, dR.eq_20, Mem.cell, Mem.row, wmA]
    exact h1 _ ⟨1, S.data.toList.take n, 0⟩ n (o1.set (Nat.le_refl _) _) ho
  | false =>
    simp -implicitDefEqProofs (disch := first | assumption | (simp only [wnA]; done) | (simp only [wnA]; omega) | omega | fail) [wkA, retV, stabOk, dC, ev, fillD, pickCells, putAt, bnd, slD, List.getElem?_cons_zero, List.getElem?_cons_succ, dR.eq_20, Mem.cell, Mem.row, wmA]
    refine c_digit ?_
    cases hdi : isDig c with
    | true =>
      have ho : oneL S.data.toList = (numV S.data.toList).map fun v => ((⟨2, S.data.toList.take (nN S.data.toList), ((v : Nat) : Int)⟩ : Tk), nN S.data.toList) := by rw [hr]; simp [oneL, hle, hdi]
      have hnl := nN_le S.data.toList
      simp -implicitDefEqProofs (disch := first | assumption | (simp only [wnA]; done) | (simp only [wnA]; omega) | omega | fail) [wkA, retV, stabOk, dC, ev, fillD, pickCells, putAt, bnd, slD, List.getElem?_cons_zero, List.getElem?_cons_succ, dR.eq_20, Mem.cell, Mem.row, wmA]
      refine c_tnum (o1.part hp) ht hE (by omega) (fun m2 o2 hn => ?_) fun m2 v o2 hn => ?_
      · rw [← o2.2 _ (by omega)] at gT
        have e0 : S.extract 0 0 = ⟨#[]⟩ := by rw [ext0]; rfl
        simp -implicitDefEqProofs (disch := first | assumption | (simp only [wnA]; done) | (simp only [wnA]; omega) | omega | fail) [wkA, retV, stabOk, dC, ev, fillD, pickCells, putAt, bnd, slD, List.getElem?_cons_zero, List.getElem?_cons_succ, dR.eq_20, Mem.cell, Mem.row, wmA, e0]
        refine SK_st (i := m.next) (o := 0) (by simp [wkA, retV, stabOk, dC, ev, fillD, pickCells, putAt, bnd, slD, List.getElem?_cons_zero, List.getElem?_cons_succ, dR.eq_20]) (e := 87) gT (by simp) (by simp [wkA, retV, stabOk, dC, ev, fillD, pickCells, putAt, bnd, slD, List.getElem?_cons_zero, List.getElem?_cons_succ, dR.eq_20]) (by simp [wkA, retV, stabOk, dC, ev, fillD, pickCells, putAt, bnd, slD, List.getElem?_cons_zero, List.getElem?_cons_succ, dR.eq_20, oneC]) ?_
        simp -implicitDefEqProofs (disch := first | assumption | (simp only [wnA]; done) | (simp only [wnA]; omega) | omega | fail) [wkA, retV, stabOk, dC, ev, fillD, pickCells, putAt, bnd, slD, List.getElem?_cons_zero, List.getElem?_cons_succ, dR.eq_20, Mem.cell, Mem.row, wmA]
        exact h0 _ ⟨2, [], 0⟩ ((o1.trans o2).set (Nat.le_refl _) _) (by rw [ho, hn]; rfl)
      · rw [← o2.2 _ (by omega)] at gT
        generalize nN S.data.toList = n at *
        have hn1 : n ≤ S.size := by omega
        have hn2 : (n : Int) ≤ (S.size : Int) := by omega
        simp -implicitDefEqProofs (disch := first | assumption | (simp only [wnA]; done) | (simp only [wnA]; omega) | omega | fail) [wkA, retV, stabOk, dC, ev, fillD, pickCells, putAt, bnd, slD, List.getElem?_cons_zero, List.getElem?_cons_succ, dR.eq_20, Mem.cell, Mem.row, wmA, hn1, hn2, ext0]
        refine SK_st (i := m.next) (o := 0) (by simp [wkA, retV, stabOk, dC, ev, fillD, pickCells, putAt, bnd, slD, List.getElem?_cons_zero, List.getElem?_cons_succ, dR.eq_20]) (e := 87) gT (by simp) (by simp [wkA, retV, stabOk, dC, ev, fillD, pickCells, putAt, bnd, slD, List.getElem?_cons_zero, List.getElem?_cons_succ, dR.eq_20]) (by simp [wkA, retV, stabOk, dC, ev, fillD, pickCells, putAt, bnd, slD, List.getElem?_cons_zero, List.getElem?_cons_succ, dR.eq_20, oneC]) ?_
        simp -implicitDefEqProofs (disch := first | assumption | (simp only [wnA]; done) | (simp only [wnA]; omega) | omega | fail) [wkA, retV, stabOk, dC, ev, fillD, pickCells, putAt, bnd, slD, List.getElem?_cons_zero, List.getElem?_cons_succ, dR.eq_20, Mem.cell, Mem.row, wmA]
        exact h1 _ ⟨2, S.data.toList.take n, v⟩ n ((o1.trans o2).set (Nat.le_refl _) _) (by rw [ho, hn]; rfl)
    | false =>
      simp -implicitDefEqProofs (disch := first | assumption | (simp only [wnA]; done) | (simp only [wnA]; omega) | omega | fail) [wkA, retV, stabOk, dC, ev, fillD, pickCells, putAt, bnd, slD, List.getElem?_cons_zero, List.getElem?_cons_succ, dR.eq_20, Mem.cell, Mem.row, wmA]
      by_cases h34 : c.toNat = 34
      · have i34 : (c.toNat : Int) = 34 := by omega
        have ho : oneL S.data.toList = (qd (S.data.toList.drop 1)).map fun p => (⟨3, p.2, 0⟩, p.1 + 1) := by rw [hr]; simp [oneL, hle, hdi, h34]
        simp -implicitDefEqProofs (disch := first | assumption | (simp only [wnA]; done) | (simp only [wnA]; omega) | omega | fail) [wkA, retV, stabOk, dC, ev, fillD, pickCells, putAt, bnd, slD, List.getElem?_cons_zero, List.getElem?_cons_succ, dR.eq_20, Mem.cell, Mem.row, wmA, i34]
        refine c_tquo hs1 (by omega) (fun m2 o2 hn => ?_) fun m2 n t o2 hn => ?_
        · rw [← o2.2 _ (by omega)] at gT
          simp -implicitDefEqProofs (disch := first | assumption | (simp only [wnA]; done) | (simp only [wnA]; omega) | omega | fail) [wkA, retV, stabOk, dC, ev, fillD, pickCells, putAt, bnd, slD, List.getElem?_cons_zero, List.getElem?_cons_succ, dR.eq_20, Mem.cell, Mem.row, wmA]
          refine SK_st (i := m.next) (o := 0) (by simp [wkA, retV, stabOk, dC, ev, fillD, pickCells, putAt, bnd, slD, List.getElem?_cons_zero, List.getElem?_cons_succ, dR.eq_20]) (e := 87) gT (by simp) (by simp [wkA, retV, stabOk, dC, ev, fillD, pickCells, putAt, bnd, slD, List.getElem?_cons_zero, List.getElem?_cons_succ, dR.eq_20]) (by simp [wkA, retV, stabOk, dC, ev, fillD, pickCells, putAt, bnd, slD, List.getElem?_cons_zero, List.getElem?_cons_succ, dR.eq_20, oneC]) ?_
          simp -implicitDefEqProofs (disch := first | assumption | (simp only [wnA]; done) | (simp only [wnA]; omega) | omega | fail) [wkA, retV, stabOk, dC, ev, fillD, pickCells, putAt, bnd, slD, List.getElem?_cons_zero, List.getElem?_cons_succ, dR.eq_20, Mem.cell, Mem.row, wmA]
          exact h0 _ ⟨3, [], 0⟩ ((o1.trans o2).set (Nat.le_refl _) _) (by rw [ho, hn]; rfl)
        · rw [← o2.2 _ (by omega)] at gT
          generalize hN : n + 1 = N at *
          simp -implicitDefEqProofs (disch := first | assumption | (simp only [wnA]; done) | (simp only [wnA]; omega) | omega | fail) [wkA, retV, stabOk, dC, ev, fillD, pickCells, putAt, bnd, slD, List.getElem?_cons_zero, List.getElem?_cons_succ, dR.eq_20, Mem.cell, Mem.row, wmA]
          refine SK_st (i := m.next) (o := 0) (by simp [wkA, retV, stabOk, dC, ev, fillD, pickCells, putAt, bnd, slD, List.getElem?_cons_zero, List.getElem?_cons_succ, dR.eq_20]) (e := 87) gT (by simp) (by simp [wkA, retV, stabOk, dC, ev, fillD, pickCells, putAt, bnd, slD, List.getElem?_cons_zero, List.getElem?_cons_succ, dR.eq_20]) (by simp [wkA, retV, stabOk, dC, ev, fillD, pickCells, putAt, bnd, slD, List.getElem?_cons_zero, List.getElem?_cons_succ, dR.eq_20, oneC]) ?_
          simp -implicitDefEqProofs (disch := first | assumption | (simp only [wnA]; done) | (simp only [wnA]; omega) | omega | fail) [wkA, retV, stabOk, dC, ev, fillD, pickCells, putAt, bnd, slD, List.getElem?_cons_zero, List.getElem?_cons_succ, dR.eq_20, Mem.cell, Mem.row, wmA]
          exact h1 _ ⟨3, t, 0⟩ N ((o1.trans o2).set (Nat.le_refl _) _) (by rw [ho, hn]; simp [hN])
      · have i34 : ¬ (c.toNat : Int) = 34 := by omega
        simp -implicitDefEqProofs (disch := first | assumption | (simp only [wnA]; done) | (simp only [wnA]; omega) | omega | fail) [wkA, retV, stabOk, dC, ev, fillD, pickCells, putAt, bnd, slD, List.getElem?_cons_zero, List.getElem?_cons_succ, dR.eq_20, Mem.cell, Mem.row, wmA, beqF i34]
        refine c_iByte ?_
        have hin := sgn_in c
        cases hsg : isSg c with
        | true =>
          have ho : oneL S.data.toList = some (⟨4, [c], 0⟩, 1) := by rw [hr]; simp [oneL, hle, hdi, h34, hsg]
          have hin2 : (0 : Int) ≤ Lib.indexByte [58, 59, 44, 123, 125] c := by
            rw [hsg] at hin
            exact of_decide_eq_true hin
          have e1 : S.extract 0 1 = ⟨⟨[c]⟩⟩ := by rw [ext0, hr]; rfl
          have hs1' : (1 : Int) ≤ (S.size : Int) := by omega
          simp -implicitDefEqProofs (disch := first | assumption | (simp only [wnA]; done) | (simp only [wnA]; omega) | omega | fail) [wkA, retV, stabOk, dC, ev, fillD, pickCells, putAt, bnd, slD, List.getElem?_cons_zero, List.getElem?_cons_succ, dR.eq_20, Mem.cell, Mem.row, wmA, hin2, hs1, hs1', e1]
          refine SK_st (i := m.next) (o := 0) (by simp [wkA, retV, stabOk, dC, ev, fillD, pickCells, putAt, bnd, slD, List.getElem?_cons_zero, List.getElem?_cons_succ, dR.eq_20]) (e := 87) gT (by simp) (by simp [wkA, retV, stabOk, dC, ev, fillD, pickCells, putAt, bnd, slD, List.getElem?_cons_zero, List.getElem?_cons_succ, dR.eq_20]) (by simp [wkA, retV, stabOk, dC, ev, fillD, pickCells, putAt, bnd, slD, List.getElem?_cons_zero, List.getElem?_cons_succ, dR.eq_20, oneC]) ?_
          simp -implicitDefEqProofs (disch := first | assumption | (simp only [wnA]; done) | (simp only [wnA]; omega) | omega | fail) [wkA, retV, stabOk, dC, ev, fillD, pickCells, putAt, bnd, slD, List.getElem?_cons_zero, List.getElem?_cons_succ, dR.eq_20, Mem.cell, Mem.row, wmA]
          exact h1 _ ⟨4, [c], 0⟩ 1 (o1.set (Nat.le_refl _) _) ho
        | false =>
          have ho : oneL S.data.toList = none := by rw [hr]; simp [oneL, hle, hdi, h34, hsg]
          have hin2 : Lib.indexByte [58, 59, 44, 123, 125] c < 0 := by
            rw [hsg] at hin
            have := of_decide_eq_false hin
            simp only [sgnS] at this
            omega
          simp -implicitDefEqProofs (disch := first | assumption | (simp only [wnA]; done) | (simp only [wnA]; omega) | omega | fail) [wkA, retV, stabOk, dC, ev, fillD, pickCells, putAt, bnd, slD, List.getElem?_cons_zero, List.getElem?_cons_succ, dR.eq_20, Mem.cell, Mem.row, wmA, leF hin2, rc48_0]
          refine SK_st (i := m.next) (o := 0) (by simp [wkA, retV, stabOk, dC, ev, fillD, pickCells, putAt, bnd, slD, List.getElem?_cons_zero, List.getElem?_cons_succ, dR.eq_20]) (e := 87) gT (by simp) (by simp [wkA, retV, stabOk, dC, ev, fillD, pickCells, putAt, bnd, slD, List.getElem?_cons_zero, List.getElem?_cons_succ, dR.eq_20]) (by simp [wkA, retV, stabOk, dC, ev, fillD, pickCells, putAt, bnd, slD, List.getElem?_cons_zero, List.getElem?_cons_succ, dR.eq_20, oneC]) ?_
          simp -implicitDefEqProofs (disch := first | assumption | (simp only [wnA]; done) | (simp only [wnA]; omega) | omega | fail) [wkA, retV, stabOk, dC, ev, fillD, pickCells, putAt, bnd, slD, List.getElem?_cons_zero, List.getElem?_cons_succ, dR.eq_20, Mem.cell, Mem.row, wmA]
          exact h0 _ ⟨0, [], 0⟩ (o1.set (Nat.le_refl _) _) ho
end Go.Proofs.YtjlicambfepfiaaGreatDoor.Ab
set_option linter.unusedVariables false
set_option linter.unusedSimpArgs false
namespace Go.Proofs.YtjlicambfepfiaaGreatDoor.Ab
open Go Go.RowKit
set_option maxHeartbeats 1000000
set_option maxRecDepth 100000
def cellP (p : Tk × Nat) : List Value := p.1.cells p.2
theorem cellP_len (p : Tk × Nat) : (cellP p).length = 4 := rfl
theorem cellsP_len (l : List (Tk × Nat)) : (l.flatMap cellP).length = l.length * 4 := by
  induction l with
  | nil => rfl
  | cons p l ih => simp only [List.flatMap_cons, List.length_append, ih, cellP_len, List.length_cons]; omega
def faultV (no a : Nat) : Value := .iface 92 (.agg ⟨[.int .i64 (no : Int), .int .i64 (a : Int)]⟩)
theorem c_Wrap {w0 : World} {m : Mem} {no a : Nat} {Q : Value → Mem → Prop} (hq : Q (faultV no a) m) : AbC Tryz.prog w0 47 [.int .i64 (no : Int), .int .i64 (a : Int)] m Q := by
  refine AbC_fn ok47 (by simp) ?_
  simp -implicitDefEqProofs (disch := first | assumption | (simp only [wnA]; done) | (simp only [wnA]; omega) | omega | fail) [rc47, ro47, wkA, retV, stabOk, dC, ev, fillD, pickCells, putAt, bnd, slD, List.getElem?_cons_zero, List.getElem?_cons_succ, dR.eq_20, Mem.cell, Mem.row, wmA]
  exact hq
/-- The state in which a text is cut further. -/
def CS (S : ByteArray) (b : Mem) (k : Nat) (ts : Fr) (m : Mem) : Prop := ∃ (a : Nat) (out : List (Tk × Nat)) (ob : Option Nat), a + k = S.size ∧ Old b m ∧ ts 0 = .string S ∧ ts 4 = slV ob out.length 4 ∧ ts 5 = .int .i64 (a : Nat) ∧
  SlO m 87 4 ob (out.flatMap cellP) out.length ∧ (∀ i, ob = some i → b.next ≤ i) ∧ out.length ≤ a ∧ cutL 0 S.data.toList = preC out (cutL a (S.data.toList.drop a))
theorem CS.move {S : ByteArray} {b m : Mem} {k k' : Nat} {ts ts' : Fr} {a a' : Nat} {out : List (Tk × Nat)} {ob : Option Nat} (h1 : a + k = S.size) (h2 : Old b m) (h3 : ts 0 = .string S) (h4 : ts 4 = slV ob out.length 4) (h6 : SlO m 87 4 ob (out.flatMap cellP) out.length) (h7 : ∀ i, ob = some i → b.next ≤ i) (h8 : out.length ≤ a)
    (e0 : ts' 0 = ts 0) (e4 : ts' 4 = ts 4) (e5 : ts' 5 = .int .i64 (a' : Nat)) (ha : a ≤ a') (hk : a' + k' = S.size) (hc : cutL 0 S.data.toList = preC out (cutL a' (S.data.toList.drop a'))) : CS S b k' ts' m :=
  ⟨a', out, ob, hk, h2, by rw [e0, h3], by rw [e4, h4], e5, h6, h7, by omega, hc⟩
theorem w_cmt {w0 : World} {Q : AQ} {ts : Fr} {m : Mem} {S : ByteArray} {a : Nat} (hs : S.size ≤ 4096) (ha : a ≤ S.size) (t0 : ts 0 = .string S) (t5 : ts 5 = .int .i64 (a : Nat))
    (hq : ∀ ts', ts' 0 = ts 0 → ts' 4 = ts 4 → ts' 5 = .int .i64 ((a + runN no10 (S.data.toList.drop a) : Nat) : Int) → Q (.exit 0) ts' m) : LoopW (AbW Tryz.prog w0 rc35_1) Q ts m := by
  refine LoopW_of (fun k ts' m' => ∃ j, j + k = S.size ∧ m' = m ∧ ts' 0 = ts 0 ∧ ts' 4 = ts 4 ∧ ts' 5 = .int .i64 (j : Nat) ∧ a + runN no10 (S.data.toList.drop a) = j + runN no10 (S.data.toList.drop j)) (S.size - a) ?_ ?_
  · exact ⟨a, by omega, rfl, rfl, rfl, t5, rfl⟩
  · rintro k ts2 m2 K ⟨j, hj, rfl, s0, s4, s5, hn⟩ hK
    rw [t0] at s0
    simp -implicitDefEqProofs (disch := first | assumption | (simp only [wnA]; done) | (simp only [wnA]; omega) | omega | fail) [rc35_1, wkA, retV, stabOk, dC, ev, fillD, pickCells, putAt, bnd, slD, List.getElem?_cons_zero, List.getElem?_cons_succ, dR.eq_20, Mem.cell, Mem.row, wmA, s0, s5]
    rcases hd : S.data.toList.drop j with _ | ⟨c, r⟩
    · have hjj := drop_nil hd (by omega)
      have hlt : ¬ j < S.size := by omega
      rw [hd] at hn
      simp -implicitDefEqProofs (disch := first | assumption | (simp only [wnA]; done) | (simp only [wnA]; omega) | omega | fail) [wkA, retV, stabOk, dC, ev, fillD, pickCells, putAt, bnd, slD, List.getElem?_cons_zero, List.getElem?_cons_succ, dR.eq_20, Mem.cell, Mem.row, wmA, s0, s5, hlt]
      exact hq _ (by simp [s0, t0]) (by simp [s4]) (by simp [s5, hn, runN])
    · obtain ⟨hlt, g1, hr⟩ := at_S hd
      have w1 : IntKind.i64.wrap ((j : Int) + 1) = (j : Int) + 1 := w64 (by omega)
      rw [hd] at hn
      by_cases h10 : c.toNat = 10
      · have i10 : (c.toNat : Int) = 10 := by omega
        simp -implicitDefEqProofs (disch := first | assumption | (simp only [wnA]; done) | (simp only [wnA]; omega) | omega | fail) [wkA, retV, stabOk, dC, ev, fillD, pickCells, putAt, bnd, slD, List.getElem?_cons_zero, List.getElem?_cons_succ, dR.eq_20, Mem.cell, Mem.row, wmA, s0, s5, hlt, g1, getOf g1, i10]
        exact hq _ (by simp [s0, t0]) (by simp [s4]) (by rw [hn]; simp [s5, runN, no10, h10])
      · have i10 : ¬ (c.toNat : Int) = 10 := by omega
        simp -implicitDefEqProofs (disch := first | assumption | (simp only [wnA]; done) | (simp only [wnA]; omega) | omega | fail) [wkA, retV, stabOk, dC, ev, fillD, pickCells, putAt, bnd, slD, List.getElem?_cons_zero, List.getElem?_cons_succ, dR.eq_20, Mem.cell, Mem.row, wmA, s0, s5, hlt, g1, getOf g1, bneT i10, rc35_0, w1]
        exact hK (k - 1) _ m2 (by omega) ⟨j + 1, by omega, rfl, by simp [s0, t0], by simp [s4], by simp, by rw [hn, hr]; simp only [runN, no10, bne_iff_ne, ne_eq, h10, not_false_eq_true, if_true]; omega⟩
theorem w_cut {w0 : World} {Q : AQ} {ts : Fr} {b m : Mem} {S : ByteArray} {k : Nat} (hp : Part L0 b) (ht : Ten w0) (hE : ErrV w0) (hs : S.size ≤ 4096) (hst : CS S b k ts m)
    (hg : ∀ k' ts' m', k' < k → CS S b k' ts' m' → Q (.goto 0) ts' m')
    (he : ∀ (ts' : Fr) m' (a : Nat), Old b m' → ts' 2 = .slice none 0 0 → ts' 3 = faultV 1 a → cutL 0 S.data.toList = .inl a → Q .ret ts' m')
    (hq : ∀ (ts' : Fr) m' i us, Old b m' → ts' 2 = slV (some i) us.length 4 → ts' 3 = .nilIface → SlO m' 87 4 (some i) (us.flatMap cellP) us.length → b.next ≤ i → us.length ≤ S.size + 1 → cutL 0 S.data.toList = .inr us → Q .ret ts' m') :
    AbW Tryz.prog w0 rc35_6 Q ts m := by
  obtain ⟨a, out, ob, h1, h2, t0, t4, t5, h6, h7, h8, hc⟩ := hst
  have hl := cellsP_len out
  simp -implicitDefEqProofs (disch := first | assumption | (simp only [wnA]; done) | (simp only [wnA]; omega) | omega | fail) [rc35_6, wkA, retV, stabOk, dC, ev, fillD, pickCells, putAt, bnd, slD, List.getElem?_cons_zero, List.getElem?_cons_succ, dR.eq_20, Mem.cell, Mem.row, wmA, t0, t5]
  rcases hd : S.data.toList.drop a with _ | ⟨c, r⟩
  · have haa := drop_nil hd (by omega)
    have ia : (a : Int) = (S.size : Int) := by omega
    rw [hd, cutL_nil] at hc
    simp -implicitDefEqProofs (disch := first | assumption | (simp only [wnA]; done) | (simp only [wnA]; omega) | omega | fail) [wkA, retV, stabOk, dC, ev, fillD, pickCells, putAt, bnd, slD, List.getElem?_cons_zero, List.getElem?_cons_succ, dR.eq_20, Mem.cell, Mem.row, wmA, beqT ia, t4, t5]
    rw [SK_bsl (cs := cellP (endT, a)) (by simp [wkA, retV, stabOk, dC, ev, fillD, pickCells, putAt, bnd, slD, List.getElem?_cons_zero, List.getElem?_cons_succ, dR.eq_20, cellP, Tk.cells, endT]) (by simp [cellP, Tk.cells, oneC])]
    simp -implicitDefEqProofs (disch := first | assumption | (simp only [wnA]; done) | (simp only [wnA]; omega) | omega | fail) [wkA, retV, stabOk, dC, ev, fillD, pickCells, putAt, bnd, slD, List.getElem?_cons_zero, List.getElem?_cons_succ, dR.eq_20, Mem.cell, Mem.row, wmA, t4]
    refine SK_ap (h6.push _) (by simp [wkA, retV, stabOk, dC, ev, fillD, pickCells, putAt, bnd, slD, List.getElem?_cons_zero, List.getElem?_cons_succ, dR.eq_20, t4]) (ys := cellP (endT, a)) (by simp -implicitDefEqProofs (disch := first | assumption | (simp only [wnA]; done) | (simp only [wnA]; omega) | omega | fail) [wkA, retV, stabOk, dC, ev, fillD, pickCells, putAt, bnd, slD, List.getElem?_cons_zero, List.getElem?_cons_succ, dR.eq_20, elemsV, Mem.cell, Mem.row, wmA, cellP, Tk.cells]) (k := 1) (by simp [wkA, retV, stabOk, dC, ev, fillD, pickCells, putAt, bnd, slD, List.getElem?_cons_zero, List.getElem?_cons_succ, dR.eq_20]) (by simp) (by simp [oneC, cellP, Tk.cells]) (by omega) (by simp only [maxLen]; omega) (by simp [cellP, Tk.cells]) ?_
    simp -implicitDefEqProofs (disch := first | assumption | (simp only [wnA]; done) | (simp only [wnA]; omega) | omega | fail) [wkA, retV, stabOk, dC, ev, fillD, pickCells, putAt, bnd, slD, List.getElem?_cons_zero, List.getElem?_cons_succ, dR.eq_20, Mem.cell, Mem.row, wmA]
    have hnew : SlO (((m.push (.own (cellP (endT, a)) 87)).kill ob).push (.own (out.flatMap cellP ++ cellP (endT, a)) 87)) 87 4 (some (m.next + 1)) (out.flatMap cellP ++ cellP (endT, a)) (out.length + 1) := SlO.new (m := (m.push (.own (cellP (endT, a)) 87)).kill ob) (e := 87) (sz := 4) (n := out.length + 1) (cs := out.flatMap cellP ++ cellP (endT, a)) (by rw [List.length_append, hl, cellP_len]; omega)
    refine hq _ _ (m.next + 1) (out ++ [(endT, a)]) (((h2.push _).kill h7).push _) (by simp) (by simp) ?_ (by have := h2.1; omega) (by simp; omega) (by rw [hc]; rfl)
    simpa using hnew
  · obtain ⟨hlt, g1, hr⟩ := at_S hd
    have ia : ¬ (a : Int) = (S.size : Int) := by omega
    have w1 : IntKind.i64.wrap ((a : Int) + 1) = (a : Int) + 1 := w64 (by omega)
    rw [hd] at hc
    simp -implicitDefEqProofs (disch := first | assumption | (simp only [wnA]; done) | (simp only [wnA]; omega) | omega | fail) [wkA, retV, stabOk, dC, ev, fillD, pickCells, putAt, bnd, slD, List.getElem?_cons_zero, List.getElem?_cons_succ, dR.eq_20, Mem.cell, Mem.row, wmA, beqF ia]
    have bl : isBl c = true → ∀ ts' : Fr, ts' 0 = ts 0 → ts' 4 = ts 4 → ts' 5 = .int .i64 ((a + 1 : Nat) : Int) → Q (.goto 0) ts' m := fun hb ts' e0 e4 e5 =>
      hg (k - 1) ts' m (by omega) (CS.move h1 h2 t0 t4 h6 h7 h8 e0 e4 e5 (by omega) (by omega) (by rw [hc, cutL_bl hb, hr]))
    by_cases h32 : c.toNat = 32
    · have i32 : (c.toNat : Int) = 32 := by omega
      simp -implicitDefEqProofs (disch := first | assumption | (simp only [wnA]; done) | (simp only [wnA]; omega) | omega | fail) [wkA, retV, stabOk, dC, ev, fillD, pickCells, putAt, bnd, slD, List.getElem?_cons_zero, List.getElem?_cons_succ, dR.eq_20, Mem.cell, Mem.row, wmA, t0, t5, hlt, g1, getOf g1, rc35_5, i32, w1]
      exact bl (by simp [isBl, h32]) _ (by simp) (by simp) (by simp)
    · have i32 : ¬ (c.toNat : Int) = 32 := by omega
      by_cases h9 : c.toNat = 9
      · have i9 : (c.toNat : Int) = 9 := by omega
        simp -implicitDefEqProofs (disch := first | assumption | (simp only [wnA]; done) | (simp only [wnA]; omega) | omega | fail) [wkA, retV, stabOk, dC, ev, fillD, pickCells, putAt, bnd, slD, List.getElem?_cons_zero, List.getElem?_cons_succ, dR.eq_20, Mem.cell, Mem.row, wmA, t0, t5, hlt, g1, getOf g1, rc35_5, i9, w1]
        exact bl (by simp [isBl, h9]) _ (by simp) (by simp) (by simp)
      · have i9 : ¬ (c.toNat : Int) = 9 := by omega
        by_cases h10 : c.toNat = 10
        · have i10 : (c.toNat : Int) = 10 := by omega
          simp -implicitDefEqProofs (disch := first | assumption | (simp only [wnA]; done) | (simp only [wnA]; omega) | omega | fail) [wkA, retV, stabOk, dC, ev, fillD, pickCells, putAt, bnd, slD, List.getElem?_cons_zero, List.getElem?_cons_succ, dR.eq_20, Mem.cell, Mem.row, wmA, t0, t5, hlt, g1, getOf g1, rc35_5, i10, w1]
          exact bl (by simp [isBl, h10]) _ (by simp) (by simp) (by simp)
        · have i10 : ¬ (c.toNat : Int) = 10 := by omega
          have hnb : isBl c = false := by simp [isBl, h32, h9, h10]
          simp -implicitDefEqProofs (disch := first | assumption | (simp only [wnA]; done) | (simp only [wnA]; omega) | omega | fail) [wkA, retV, stabOk, dC, ev, fillD, pickCells, putAt, bnd, slD, List.getElem?_cons_zero, List.getElem?_cons_succ, dR.eq_20, Mem.cell, Mem.row, wmA, t0, t5, hlt, g1, getOf g1, rc35_5, beqF i32, beqF i9, beqF i10, rc35_4]
          by_cases h35 : c.toNat = 35
          · have i35 : (c.toNat : Int) = 35 := by omega
            have hcm := run_cm (r := r) h35
            have hle := runN_le no10 (c :: r)
            have hdl := congrArg List.length hd
            rw [List.length_drop] at hdl
            have hsz : S.data.toList.length = S.size := by simp
            simp -implicitDefEqProofs (disch := first | assumption | (simp only [wnA]; done) | (simp only [wnA]; omega) | omega | fail) [wkA, retV, stabOk, dC, ev, fillD, pickCells, putAt, bnd, slD, List.getElem?_cons_zero, List.getElem?_cons_succ, dR.eq_20, Mem.cell, Mem.row, wmA, t0, t5, hlt, g1, getOf g1, i35]
            refine w_cmt (S := S) (a := a) hs (by omega) (by simp [t0]) (by simp [t5]) fun ts' e0 e4 e5 => ?_
            simp -implicitDefEqProofs (disch := first | assumption | (simp only [wnA]; done) | (simp only [wnA]; omega) | omega | fail) [wkA, retV, stabOk, dC, ev, fillD, pickCells, putAt, bnd, slD, List.getElem?_cons_zero, List.getElem?_cons_succ, dR.eq_20]
            rw [hd] at e5
            exact hg (S.size - (a + runN no10 (c :: r))) ts' m (by omega) (CS.move h1 h2 t0 t4 h6 h7 h8 (by rw [e0]; simp) (by rw [e4]; simp) e5 (by omega) (by omega) (by rw [hc, cutL_cm hnb h35, ← hd, List.drop_drop]))
          · have i35 : ¬ (c.toNat : Int) = 35 := by omega
            have ha1 : a ≤ S.size := by omega
            have ha2 : (a : Int) ≤ (S.size : Int) := by omega
            have hx : (S.extract a S.size).data.toList = S.data.toList.drop a := by
              rw [Lib.extract_eq]
              show List.take _ _ = _
              exact List.take_of_length_le (by simp)
            have hxs : (S.extract a S.size).size = S.size - a := by simp
            simp -implicitDefEqProofs (disch := first | assumption | (simp only [wnA]; done) | (simp only [wnA]; omega) | omega | fail) [wkA, retV, stabOk, dC, ev, fillD, pickCells, putAt, bnd, slD, List.getElem?_cons_zero, List.getElem?_cons_succ, dR.eq_20, Mem.cell, Mem.row, wmA, t0, t5, hlt, ha1, ha2, g1, getOf g1, beqF i35, rc35_3]
            refine c_tone (h2.part hp) ht hE (by omega) (by omega) (fun m1 t o1 hn => ?_) fun m1 t n o1 hn => ?_
            · rw [hx, hd] at hn
              simp -implicitDefEqProofs (disch := first | assumption | (simp only [wnA]; done) | (simp only [wnA]; omega) | omega | fail) [wkA, retV, stabOk, dC, ev, fillD, pickCells, putAt, bnd, slD, List.getElem?_cons_zero, List.getElem?_cons_succ, dR.eq_20, Mem.cell, Mem.row, wmA, Tk.cells]
              refine SK_st (i := m1.next) (o := 0) (by simp [wkA, retV, stabOk, dC, ev, fillD, pickCells, putAt, bnd, slD, List.getElem?_cons_zero, List.getElem?_cons_succ, dR.eq_20]) (e := 87) (by simp -implicitDefEqProofs (disch := first | assumption | (simp only [wnA]; done) | (simp only [wnA]; omega) | omega | fail) [Mem.cell, Mem.row, wmA]; rfl) (by simp) (by simp [wkA, retV, stabOk, dC, ev, fillD, pickCells, putAt, bnd, slD, List.getElem?_cons_zero, List.getElem?_cons_succ, dR.eq_20]) (by simp [wkA, retV, stabOk, dC, ev, fillD, pickCells, putAt, bnd, slD, List.getElem?_cons_zero, List.getElem?_cons_succ, dR.eq_20, oneC]) ?_
              simp -implicitDefEqProofs (disch := first | assumption | (simp only [wnA]; done) | (simp only [wnA]; omega) | omega | fail) [wkA, retV, stabOk, dC, ev, fillD, pickCells, putAt, bnd, slD, List.getElem?_cons_zero, List.getElem?_cons_succ, dR.eq_20, Mem.cell, Mem.row, wmA, t5]
              refine c_Wrap (no := 1) ?_
              simp -implicitDefEqProofs (disch := first | assumption | (simp only [wnA]; done) | (simp only [wnA]; omega) | omega | fail) [wkA, retV, stabOk, dC, ev, fillD, pickCells, putAt, bnd, slD, List.getElem?_cons_zero, List.getElem?_cons_succ, dR.eq_20, Mem.cell, Mem.row, wmA]
              exact he _ _ a (((h2.trans o1).push _).set (by have := h2.1; have := o1.1; omega) _) (by simp) (by simp) (by rw [hc, cutL_none hnb h35 hn]; rfl)
            · rw [hx, hd] at hn
              have hnl := oneL_len hn
              have hdl := congrArg List.length hd
              rw [List.length_drop] at hdl
              have hsz : S.data.toList.length = S.size := by simp
              have n0 : ¬ (n : Int) = 0 := by omega
              simp -implicitDefEqProofs (disch := first | assumption | (simp only [wnA]; done) | (simp only [wnA]; omega) | omega | fail) [wkA, retV, stabOk, dC, ev, fillD, pickCells, putAt, bnd, slD, List.getElem?_cons_zero, List.getElem?_cons_succ, dR.eq_20, Mem.cell, Mem.row, wmA, Tk.cells]
              refine SK_st (i := m1.next) (o := 0) (by simp [wkA, retV, stabOk, dC, ev, fillD, pickCells, putAt, bnd, slD, List.getElem?_cons_zero, List.getElem?_cons_succ, dR.eq_20]) (e := 87) (by simp -implicitDefEqProofs (disch := first | assumption | (simp only [wnA]; done) | (simp only [wnA]; omega) | omega | fail) [Mem.cell, Mem.row, wmA]; rfl) (by simp) (by simp [wkA, retV, stabOk, dC, ev, fillD, pickCells, putAt, bnd, slD, List.getElem?_cons_zero, List.getElem?_cons_succ, dR.eq_20]) (by simp [wkA, retV, stabOk, dC, ev, fillD, pickCells, putAt, bnd, slD, List.getElem?_cons_zero, List.getElem?_cons_succ, dR.eq_20, oneC]) ?_
              simp -implicitDefEqProofs (disch := first | assumption | (simp only [wnA]; done) | (simp only [wnA]; omega) | omega | fail) [wkA, retV, stabOk, dC, ev, fillD, pickCells, putAt, bnd, slD, List.getElem?_cons_zero, List.getElem?_cons_succ, dR.eq_20, Mem.cell, Mem.row, wmA, beqF n0, rc35_2, t5]
              refine SK_st (i := m1.next) (o := 3) (by simp [wkA, retV, stabOk, dC, ev, fillD, pickCells, putAt, bnd, slD, List.getElem?_cons_zero, List.getElem?_cons_succ, dR.eq_20]) (e := 87) (by simp -implicitDefEqProofs (disch := first | assumption | (simp only [wnA]; done) | (simp only [wnA]; omega) | omega | fail) [Mem.cell, Mem.row, wmA]; rfl) (by simp) (by simp [wkA, retV, stabOk, dC, ev, fillD, pickCells, putAt, bnd, slD, List.getElem?_cons_zero, List.getElem?_cons_succ, dR.eq_20]) (by simp [wkA, retV, stabOk, dC, ev, fillD, pickCells, putAt, bnd, slD, List.getElem?_cons_zero, List.getElem?_cons_succ, dR.eq_20, oneC]) ?_
              simp -implicitDefEqProofs (disch := first | assumption | (simp only [wnA]; done) | (simp only [wnA]; omega) | omega | fail) [wkA, retV, stabOk, dC, ev, fillD, pickCells, putAt, bnd, slD, List.getElem?_cons_zero, List.getElem?_cons_succ, dR.eq_20, Mem.cell, Mem.row, wmA, t4]
              rw [SK_bsl (cs := cellP (t, a)) (by simp [wkA, retV, stabOk, dC, ev, fillD, pickCells, putAt, bnd, slD, List.getElem?_cons_zero, List.getElem?_cons_succ, dR.eq_20, cellP, Tk.cells]) (by simp [cellP, Tk.cells, oneC])]
              have h61 : SlO m1 87 4 ob (out.flatMap cellP) out.length := h6.keep (by have := o1.1; omega) fun i hi => o1.2 i (by subst hi; exact h6.lt)
              have hne : ob ≠ some m1.next := fun e => by subst e; have := h61.lt; omega
              have hM := fun E1 E2 E3 => (((h61.push E1).set hne E2).set hne E3)
              have oM := fun E1 E2 E3 => ((((h2.trans o1).push E1).set (show b.next ≤ m1.next by have := h2.1; have := o1.1; omega) E2).set (show b.next ≤ m1.next by have := h2.1; have := o1.1; omega) E3)
              have nM : ∀ E1 E2 E3, (((m1.push E1).set m1.next E2).set m1.next E3).next = m1.next + 1 := fun _ _ _ => rfl
              have w2 : IntKind.i64.wrap ((a : Int) + (n : Int)) = ((a + n : Nat) : Int) := by rw [w64 (by omega)]; omega
              simp -implicitDefEqProofs (disch := first | assumption | (simp only [wnA]; done) | (simp only [wnA]; omega) | omega | fail) [wkA, retV, stabOk, dC, ev, fillD, pickCells, putAt, bnd, slD, List.getElem?_cons_zero, List.getElem?_cons_succ, dR.eq_20, Mem.cell, Mem.row, wmA, t4]
              refine SK_ap (ob := ob) (cs := out.flatMap cellP) (n := out.length) ((hM _ _ _).push _) (by simp [wkA, retV, stabOk, dC, ev, fillD, pickCells, putAt, bnd, slD, List.getElem?_cons_zero, List.getElem?_cons_succ, dR.eq_20, t4]) (ys := cellP (t, a)) (by simp -implicitDefEqProofs (disch := first | assumption | (simp only [wnA]; done) | (simp only [wnA]; omega) | omega | fail) [wkA, retV, stabOk, dC, ev, fillD, pickCells, putAt, bnd, slD, List.getElem?_cons_zero, List.getElem?_cons_succ, dR.eq_20, elemsV, Mem.cell, Mem.row, wmA, cellP, Tk.cells]) (k := 1) (by simp [wkA, retV, stabOk, dC, ev, fillD, pickCells, putAt, bnd, slD, List.getElem?_cons_zero, List.getElem?_cons_succ, dR.eq_20]) (by simp) (by simp [oneC, cellP, Tk.cells]) (by omega) (by simp only [maxLen]; omega) (by simp [cellP, Tk.cells]) ?_
              simp -implicitDefEqProofs (disch := first | assumption | (simp only [wnA]; done) | (simp only [wnA]; omega) | omega | fail) [wkA, retV, stabOk, dC, ev, fillD, pickCells, putAt, bnd, slD, List.getElem?_cons_zero, List.getElem?_cons_succ, dR.eq_20, Mem.cell, Mem.row, wmA, w2, t5]
              refine hg (k - n) _ _ (by omega) ?_
              refine ⟨a + n, out ++ [(t, a)], some (m1.next + 1 + 1), by omega, ((((oM _ _ _).push _).kill h7).push _), by simp [t0], by simp, by simp, ?_, ?_, by simp; omega, ?_⟩
              · have e1 : (out ++ [(t, a)]).flatMap cellP = out.flatMap cellP ++ cellP (t, a) := by simp
                have e2 : (out ++ [(t, a)]).length = out.length + 1 := by simp
                rw [e1, e2]
                exact SlO.new (by rw [List.length_append, hl, cellP_len]; omega)
              · intro i hi
                have := h2.1; have := o1.1
                simp at hi; omega
              · rw [hc, cutL_some hnb h35 hn, preC_pre, ← hd, List.drop_drop]
/-- A text's tokens, or where it has none. -/
theorem c_tCut {w0 : World} {m : Mem} {S : ByteArray} {Q : Value → Mem → Prop} (hp : Part L0 m) (ht : Ten w0) (hE : ErrV w0)
    (hb : 4096 < S.size → ∀ m', Old m m' → Q (.tuple ⟨[.slice none 0 0, faultV 7 0]⟩) m')
    (he : S.size ≤ 4096 → ∀ m' a, Old m m' → cutL 0 S.data.toList = .inl a → Q (.tuple ⟨[.slice none 0 0, faultV 1 a]⟩) m')
    (hq : S.size ≤ 4096 → ∀ m' i us, Old m m' → SlO m' 87 4 (some i) (us.flatMap cellP) us.length → m.next ≤ i → us.length ≤ S.size + 1 → cutL 0 S.data.toList = .inr us → Q (.tuple ⟨[slV (some i) us.length 4, .nilIface]⟩) m') :
    AbC Tryz.prog w0 35 [.string S] m Q := by
  refine AbC_fn ok35 (by simp) ?_
  by_cases hs : 4096 < S.size
  · have his : (4096 : Int) < (S.size : Int) := by omega
    simp -implicitDefEqProofs (disch := first | assumption | (simp only [wnA]; done) | (simp only [wnA]; omega) | omega | fail) [rc35, ro35, wkA, retV, stabOk, dC, ev, fillD, pickCells, putAt, bnd, slD, List.getElem?_cons_zero, List.getElem?_cons_succ, dR.eq_20, Mem.cell, Mem.row, wmA]
    refine JumpW_of (fun _ _ _ _ => False) (fun J hJ => ?_) (fun _ _ _ _ h => h.elim) (fun _ _ _ _ h => h.elim)
    simp -implicitDefEqProofs (disch := first | assumption | (simp only [wnA]; done) | (simp only [wnA]; omega) | omega | fail) [wkA, retV, stabOk, dC, ev, fillD, pickCells, putAt, bnd, slD, List.getElem?_cons_zero, List.getElem?_cons_succ, dR.eq_20, Mem.cell, Mem.row, wmA, gtT his]
    refine c_Wrap (no := 7) (a := 0) ?_
    simp -implicitDefEqProofs (disch := first | assumption | (simp only [wnA]; done) | (simp only [wnA]; omega) | omega | fail) [wkA, retV, stabOk, dC, ev, fillD, pickCells, putAt, bnd, slD, List.getElem?_cons_zero, List.getElem?_cons_succ, dR.eq_20, Mem.cell, Mem.row, wmA]
    exact hb hs m (Old.refl m)
  · have hs' : S.size ≤ 4096 := by omega
    have his : (S.size : Int) ≤ 4096 := by omega
    have r0 : ∀ (ts' : Fr) m' (a : Nat), Old m m' → ts' 2 = .slice none 0 0 → ts' 3 = faultV 1 a → cutL 0 S.data.toList = .inl a → bodyA ro35 Q .ret ts' m' := fun ts' m' a o e2 e3 hn => by
      simp -implicitDefEqProofs (disch := first | assumption | (simp only [wnA]; done) | (simp only [wnA]; omega) | omega | fail) [ro35, wkA, retV, stabOk, dC, ev, fillD, pickCells, putAt, bnd, slD, List.getElem?_cons_zero, List.getElem?_cons_succ, dR.eq_20, Mem.cell, Mem.row, wmA, e2, e3]
      exact he hs' m' a o hn
    have r1 : ∀ (ts' : Fr) m' i us, Old m m' → ts' 2 = slV (some i) us.length 4 → ts' 3 = .nilIface → SlO m' 87 4 (some i) (us.flatMap cellP) us.length → m.next ≤ i → us.length ≤ S.size + 1 → cutL 0 S.data.toList = .inr us → bodyA ro35 Q .ret ts' m' := fun ts' m' i us o e2 e3 h1 h2 h3 hn => by
      simp -implicitDefEqProofs (disch := first | assumption | (simp only [wnA]; done) | (simp only [wnA]; omega) | omega | fail) [ro35, wkA, retV, stabOk, dC, ev, fillD, pickCells, putAt, bnd, slD, List.getElem?_cons_zero, List.getElem?_cons_succ, dR.eq_20, Mem.cell, Mem.row, wmA, e2, e3]
      exact hq hs' m' i us o h1 h2 h3 hn
    simp only [ro35] at r0 r1
    simp -implicitDefEqProofs (disch := first | assumption | (simp only [wnA]; done) | (simp only [wnA]; omega) | omega | fail) [rc35, ro35, wkA, retV, stabOk, dC, ev, fillD, pickCells, putAt, bnd, slD, List.getElem?_cons_zero, List.getElem?_cons_succ, dR.eq_20, Mem.cell, Mem.row, wmA]
    refine JumpW_of (fun x k ts m' => CS S m k ts m') (fun J hJ => ?_) (fun k ts m' J hst hJ => ?_) (fun k ts m' J hst hJ => ?_)
    · simp -implicitDefEqProofs (disch := first | assumption | (simp only [wnA]; done) | (simp only [wnA]; omega) | omega | fail) [wkA, retV, stabOk, dC, ev, fillD, pickCells, putAt, bnd, slD, List.getElem?_cons_zero, List.getElem?_cons_succ, dR.eq_20, Mem.cell, Mem.row, wmA, gtF his, rc35_7]
      refine w_cut hp ht hE hs' (k := S.size) ⟨0, [], none, by omega, Old.refl m, by simp [frA_at], by simp [slV], by simp, ⟨rfl, rfl⟩, (fun i hi => by cases hi), Nat.le_refl _, by rw [preC_nil]; rfl⟩ (fun k' ts' m' _ hst => ?_) (fun ts' m' a o e2 e3 hn => ?_) fun ts' m' i us o e2 e3 h1 h2 h3 hn => ?_
      · simp -implicitDefEqProofs (disch := first | assumption | (simp only [wnA]; done) | (simp only [wnA]; omega) | omega | fail) [wkA, retV, stabOk, dC, ev, fillD, pickCells, putAt, bnd, slD, List.getElem?_cons_zero, List.getElem?_cons_succ, dR.eq_20]
        exact .inl (hJ false k' ts' m' hst)
      · simp -implicitDefEqProofs (disch := first | assumption | (simp only [wnA]; done) | (simp only [wnA]; omega) | omega | fail) [wkA, retV, stabOk, dC, ev, fillD, pickCells, putAt, bnd, slD, List.getElem?_cons_zero, List.getElem?_cons_succ, dR.eq_20] at r0 ⊢
        exact r0 ts' m' a o e2 e3 hn
      · simp -implicitDefEqProofs (disch := first | assumption | (simp only [wnA]; done) | (simp only [wnA]; omega) | omega | fail) [wkA, retV, stabOk, dC, ev, fillD, pickCells, putAt, bnd, slD, List.getElem?_cons_zero, List.getElem?_cons_succ, dR.eq_20] at r1 ⊢
        exact r1 ts' m' i us o e2 e3 h1 h2 h3 hn
    · simp -implicitDefEqProofs (disch := first | assumption | (simp only [wnA]; done) | (simp only [wnA]; omega) | omega | fail) [wkA, retV, stabOk, dC, ev, fillD, pickCells, putAt, bnd, slD, List.getElem?_cons_zero, List.getElem?_cons_succ, dR.eq_20, Mem.cell, Mem.row, wmA, rc35_8]
      refine w_cut hp ht hE hs' hst (fun k' ts' m' hk hst => ?_) (fun ts' m' a o e2 e3 hn => ?_) fun ts' m' i us o e2 e3 h1 h2 h3 hn => ?_
      · simp -implicitDefEqProofs (disch := first | assumption | (simp only [wnA]; done) | (simp only [wnA]; omega) | omega | fail) [wkA, retV, stabOk, dC, ev, fillD, pickCells, putAt, bnd, slD, List.getElem?_cons_zero, List.getElem?_cons_succ, dR.eq_20]
        exact .inl (hJ false k' ts' m' hk hst)
      · simp -implicitDefEqProofs (disch := first | assumption | (simp only [wnA]; done) | (simp only [wnA]; omega) | omega | fail) [wkA, retV, stabOk, dC, ev, fillD, pickCells, putAt, bnd, slD, List.getElem?_cons_zero, List.getElem?_cons_succ, dR.eq_20] at r0 ⊢
        exact r0 ts' m' a o e2 e3 hn
      · simp -implicitDefEqProofs (disch := first | assumption | (simp only [wnA]; done) | (simp only [wnA]; omega) | omega | fail) [wkA, retV, stabOk, dC, ev, fillD, pickCells, putAt, bnd, slD, List.getElem?_cons_zero, List.getElem?_cons_succ, dR.eq_20] at r1 ⊢
        exact r1 ts' m' i us o e2 e3 h1 h2 h3 hn
    · simp -implicitDefEqProofs (disch := first | assumption | (simp only [wnA]; done) | (simp only [wnA]; omega) | omega | fail) [wkA, retV, stabOk, dC, ev, fillD, pickCells, putAt, bnd, slD, List.getElem?_cons_zero, List.getElem?_cons_succ, dR.eq_20, Mem.cell, Mem.row, wmA, rc35_8]
      refine w_cut hp ht hE hs' hst (fun k' ts' m' hk hst => ?_) (fun ts' m' a o e2 e3 hn => ?_) fun ts' m' i us o e2 e3 h1 h2 h3 hn => ?_
      · simp -implicitDefEqProofs (disch := first | assumption | (simp only [wnA]; done) | (simp only [wnA]; omega) | omega | fail) [wkA, retV, stabOk, dC, ev, fillD, pickCells, putAt, bnd, slD, List.getElem?_cons_zero, List.getElem?_cons_succ, dR.eq_20]
        exact .inl (hJ false k' ts' m' hk hst)
      · simp -implicitDefEqProofs (disch := first | assumption | (simp only [wnA]; done) | (simp only [wnA]; omega) | omega | fail) [wkA, retV, stabOk, dC, ev, fillD, pickCells, putAt, bnd, slD, List.getElem?_cons_zero, List.getElem?_cons_succ, dR.eq_20] at r0 ⊢
        exact r0 ts' m' a o e2 e3 hn
      · simp -implicitDefEqProofs (disch := first | assumption | (simp only [wnA]; done) | (simp only [wnA]; omega) | omega | fail) [wkA, retV, stabOk, dC, ev, fillD, pickCells, putAt, bnd, slD, List.getElem?_cons_zero, List.getElem?_cons_succ, dR.eq_20] at r1 ⊢
        exact r1 ts' m' i us o e2 e3 h1 h2 h3 hn
end Go.Proofs.YtjlicambfepfiaaGreatDoor.Ab

set_option linter.unusedVariables false
set_option linter.unusedSimpArgs false
namespace Go.Proofs.YtjlicambfepfiaaGreatDoor.Ab
open Go Go.RowKit
def PlL (L : List UInt8) : Int → List (Tk × Nat) → Prop
  | _, [] => True
  | pr, p :: us => (p.1.kd ≠ 0 → pr < (p.2 : Int)) ∧ pr ≤ (p.2 : Int) ∧ p.2 ≤ L.length ∧ (p.1.kd ≠ 3 → p.2 + p.1.tx.length ≤ L.length ∧ (L.drop p.2).take p.1.tx.length = p.1.tx) ∧ PlL L (p.2 : Int) us
theorem oneL_text {l : List UInt8} {t : Tk} {n : Nat} (h : oneL l = some (t, n)) : t.kd ≠ 0 ∧ (t.kd ≠ 3 → t.tx.length ≤ l.length ∧ l.take t.tx.length = t.tx) := by
  cases l with
  | nil => simp [oneL] at h
  | cons c r =>
    have tk : ∀ k : Nat, ((c :: r).take k).length ≤ (c :: r).length ∧ (c :: r).take ((c :: r).take k).length = (c :: r).take k := fun k => by
      rw [List.length_take]
      refine ⟨by omega, ?_⟩
      rw [List.take_eq_take_iff]
      omega
    simp only [oneL] at h
    split at h
    · simp only [Option.some.injEq, Prod.mk.injEq] at h
      obtain ⟨rfl, rfl⟩ := h
      exact ⟨by show (1 : Int) ≠ 0; decide, fun _ => tk _⟩
    · split at h
      · cases hv : numV (c :: r) with
        | none => simp [hv] at h
        | some v =>
          simp only [hv, Option.map_some, Option.some.injEq, Prod.mk.injEq] at h
          obtain ⟨rfl, rfl⟩ := h
          exact ⟨by show (2 : Int) ≠ 0; decide, fun _ => tk _⟩
      · split at h
        · cases hq : qd r with
          | none => simp [hq] at h
          | some p =>
            simp only [hq, Option.map_some, Option.some.injEq, Prod.mk.injEq] at h
            obtain ⟨rfl, rfl⟩ := h
            exact ⟨by show (3 : Int) ≠ 0; decide, fun h => absurd rfl h⟩
        · split at h
          · simp only [Option.some.injEq, Prod.mk.injEq] at h
            obtain ⟨rfl, rfl⟩ := h
            exact ⟨by show (4 : Int) ≠ 0; decide, fun _ => tk 1⟩
          · cases h
theorem cut_places (L : List UInt8) : ∀ (k a : Nat), L.length - a ≤ k → a ≤ L.length → (∀ e, cutL a (L.drop a) = .inl e → e ≤ L.length) ∧ (∀ us, cutL a (L.drop a) = .inr us → (∀ pr : Int, pr < (a : Int) → PlL L pr us) ∧ ∃ i, us = i ++ [(endT, L.length)])
  | k, a, hk, ha => by
    rcases hd : L.drop a with _ | ⟨c, r⟩
    · have hla : L.length = a := by
        have := congrArg List.length hd
        rw [List.length_drop] at this
        simp at this; omega
      rw [cutL_nil]
      refine ⟨fun e h => (by cases h), fun us h => ?_⟩
      cases h
      refine ⟨fun pr hpr => ?_, [], by rw [hla]; rfl⟩
      refine ⟨fun h => by simp [endT] at h, by omega, by omega, fun _ => ⟨by simp [endT]; omega, by simp [endT]⟩, trivial⟩
    · have hl := congrArg List.length hd
      rw [List.length_drop] at hl
      simp only [List.length_cons] at hl
      obtain ⟨k, rfl⟩ : ∃ k', k = k' + 1 := ⟨k - 1, by omega⟩
      have hr : L.drop (a + 1) = r := by
        have := congrArg (List.drop 1) hd
        rw [List.drop_drop] at this
        simpa using this
      cases hb : isBl c with
      | true =>
        rw [cutL_bl hb, ← hr]
        obtain ⟨i1, i2⟩ := cut_places L k (a + 1) (by omega) (by omega)
        exact ⟨i1, fun us h => ⟨fun pr hpr => (i2 us h).1 pr (by omega), (i2 us h).2⟩⟩
      | false =>
        by_cases h35 : c.toNat = 35
        · have h1 := run_cm (r := r) h35
          have h2 := runN_le no10 (c :: r)
          simp only [List.length_cons] at h2
          rw [cutL_cm hb h35, ← hd, List.drop_drop]
          rw [← hd] at h1 h2
          obtain ⟨i1, i2⟩ := cut_places L k (a + runN no10 (L.drop a)) (by omega) (by omega)
          exact ⟨i1, fun us h => ⟨fun pr hpr => (i2 us h).1 pr (by omega), (i2 us h).2⟩⟩
        · cases ho : oneL (c :: r) with
          | none =>
            rw [cutL_none hb h35 ho]
            exact ⟨fun e h => (by cases h; exact ha), fun us h => by cases h⟩
          | some q =>
            obtain ⟨t, n⟩ := q
            obtain ⟨n1, n2⟩ := oneL_len ho
            obtain ⟨x1, x2⟩ := oneL_text ho
            simp only [List.length_cons] at n2
            rw [cutL_some hb h35 ho, ← hd, List.drop_drop]
            obtain ⟨i1, i2⟩ := cut_places L k (a + n) (by omega) (by omega)
            refine ⟨fun e h => ?_, fun us h => ?_⟩
            · cases hc : cutL (a + n) (L.drop (a + n)) with
              | inl e' =>
                rw [hc] at h
                simp only [preC, Sum.inl.injEq] at h
                subst h
                exact i1 _ hc
              | inr vs => rw [hc] at h; cases h
            · cases hc : cutL (a + n) (L.drop (a + n)) with
              | inl e' => rw [hc] at h; cases h
              | inr vs =>
                rw [hc] at h
                simp only [preC, Sum.inr.injEq] at h
                subst h
                obtain ⟨j1, i, j2⟩ := i2 _ hc
                refine ⟨fun pr hpr => ⟨fun _ => hpr, by omega, by omega, fun hk => ?_, j1 _ (by omega)⟩, (t, a) :: i, by rw [j2]; rfl⟩
                obtain ⟨y1, y2⟩ := x2 hk
                simp only [List.length_cons] at y1
                exact ⟨by show a + t.tx.length ≤ L.length; omega, by show (L.drop a).take t.tx.length = t.tx; rw [hd]; exact y2⟩
end Go.Proofs.YtjlicambfepfiaaGreatDoor.Ab

set_option linter.unusedVariables false
set_option linter.unusedSimpArgs false
namespace Go.Proofs.YtjlicambfepfiaaGreatDoor.Ab
open Go Go.RowKit
set_option maxRecDepth 100000
/-- A name in quotes. -/
def qL (l : List UInt8) : List UInt8 := match escL l with
  | some e => 34 :: (e ++ [34])
  | none => []
theorem quoteV_eq (l : List UInt8) : quoteV l = .tuple ⟨[.string ⟨⟨qL l⟩⟩, .bool (escL l).isSome]⟩ := by
  unfold quoteV qL
  split <;> rename_i h <;> simp [h]
theorem qL_len (l : List UInt8) : (qL l).length ≤ 2 * l.length + 2 := by
  unfold qL
  split
  · rename_i e h; have := escL_len h; simp; omega
  · simp
def StrOk (t : List UInt8) : Prop := ∃ e, escL t = some e ∧ ∀ r, qd (e ++ 34 :: r) = some (e.length + 1, t)
theorem strOk_nil : StrOk [] := ⟨[], rfl, fun r => qd_q rfl⟩
theorem esc_round {c : UInt8} {a : List UInt8} (h : escC c = some a) {X : List UInt8} {n : Nat} {t : List UInt8} (hX : qd X = some (n, t)) : qd (a ++ X) = some (n + a.length, c :: t) := by
  unfold escC at h
  split at h
  · rename_i hc
    have : c = 13 := UInt8.toNat_inj.1 hc
    subst this
    cases h
    show qd (92 :: 114 :: X) = _
    rw [qd_e2 rfl (show escD 114 = some 13 from rfl), hX]
    rfl
  · split at h
    · rename_i hc
      have : c = 10 := UInt8.toNat_inj.1 hc
      subst this
      cases h
      show qd (92 :: 110 :: X) = _
      rw [qd_e2 rfl (show escD 110 = some 10 from rfl), hX]
      rfl
    · split at h
      · cases h
      · rename_i hr
        split at h
        · rename_i hc
          cases h
          show qd (92 :: c :: X) = _
          have hd : escD c = some c := by
            rcases hc with hc | hc
            · have : c = 34 := UInt8.toNat_inj.1 hc
              subst this; rfl
            · have : c = 92 := UInt8.toNat_inj.1 hc
              subst this; rfl
          rw [qd_e2 rfl hd, hX]
          rfl
        · rename_i hc
          cases h
          show qd (c :: X) = _
          rw [qd_ch hr (fun e => hc (.inl e)) (fun e => hc (.inr e)), hX]
          rfl
theorem strOk_cons {c : UInt8} {t : List UInt8} (hc : (escC c).isSome = true) (ht : StrOk t) : StrOk (c :: t) := by
  obtain ⟨a, ha⟩ := Option.isSome_iff_exists.1 hc
  obtain ⟨e, he, hq⟩ := ht
  refine ⟨a ++ e, by simp [escL, ha, he], fun r => ?_⟩
  rw [List.append_assoc, esc_round ha (hq r), List.length_append]
  congr 2
  omega
theorem esc_c {c : UInt8} (h : ¬ (c.toNat < 32 ∨ 126 < c.toNat)) : (escC c).isSome = true := by
  unfold escC
  rw [if_neg (by omega), if_neg (by omega), if_neg h]
  split <;> rfl
def TkOk (N : Nat) (t : Tk) : Prop := (t.kd = 2 → 0 ≤ t.vl ∧ t.vl ≤ 4294967295) ∧ (t.kd = 3 → StrOk t.tx) ∧ t.tx.length ≤ N
theorem TkOk.mono {N M : Nat} {t : Tk} (h : TkOk N t) (hNM : N ≤ M) : TkOk M t := ⟨h.1, h.2.1, Nat.le_trans h.2.2 hNM⟩
end Go.Proofs.YtjlicambfepfiaaGreatDoor.Ab

set_option linter.unusedVariables false
set_option linter.unusedSimpArgs false
namespace Go.Proofs.YtjlicambfepfiaaGreatDoor.Ab
open Go Go.RowKit
theorem inB_digC10 : ∀ d : Fin 10, inB 10 (digC d.val) = true := by decide +kernel
theorem digs_all {B : Nat} {p : UInt8 → Bool} (hB : 2 ≤ B) (h : ∀ d, d < B → p (digC d) = true) : ∀ n, ∀ c ∈ digs B n, p c = true := by
  intro n
  induction n using Nat.strongRecOn with
  | _ n ih =>
    intro c hc
    by_cases hn : n < B
    · rw [digs_lt hn] at hc
      simp at hc; subst hc
      exact h n hn
    · have h1 : n / B < n := Nat.div_lt_self (by omega) (by omega)
      rw [digs_ge (by omega) (by omega), List.mem_append] at hc
      rcases hc with hc | hc
      · exact ih _ h1 c hc
      · simp at hc; subst hc
        exact h _ (Nat.mod_lt _ (by omega))
theorem digs10_all (n : Nat) : ∀ c ∈ digs 10 n, isDig c = true := by
  intro c hc
  have := digs_all (B := 10) (p := inB 10) (by omega) (fun d hd => inB_digC10 ⟨d, hd⟩) n c hc
  simpa [inB] using this
theorem dig_facts {c : UInt8} (h : isDig c = true) : isLet c = false ∧ isBl c = false ∧ c.toNat ≠ 35 ∧ c.toNat ≠ 120 := by
  simp only [isDig, Bool.and_eq_true, decide_eq_true_eq] at h
  refine ⟨?_, ?_, by omega, by omega⟩
  · simp only [isLet, Bool.and_eq_false_iff, decide_eq_false_iff_not]; omega
  · simp only [isBl, Bool.or_eq_false_iff, beq_eq_false_iff_ne]; omega
theorem digs_cons (B n : Nat) : ∃ c r, digs B n = c :: r := by
  have := digs_pos B n
  match h : digs B n with
  | [] => rw [h] at this; simp at this
  | c :: r => exact ⟨c, r, rfl⟩
end Go.Proofs.YtjlicambfepfiaaGreatDoor.Ab

set_option linter.unusedVariables false
set_option linter.unusedSimpArgs false
namespace Go.Proofs.YtjlicambfepfiaaGreatDoor.Ab
open Go Go.RowKit
set_option maxRecDepth 100000
def Cx (l : List UInt8) (ts : List Tk) (r : List UInt8) : Prop := ∀ a, ∃ a' us, us.map (·.1) = ts ∧ cutL a l = preC us (cutL a' r)
theorem Cx.refl (l : List UInt8) : Cx l [] l := fun a => ⟨a, [], rfl, (preC_nil _).symm⟩
theorem Cx.trans {l r r' : List UInt8} {ts ts' : List Tk} (h : Cx l ts r) (k : Cx r ts' r') : Cx l (ts ++ ts') r' := fun a => by
  obtain ⟨a1, us, e, h1⟩ := h a
  obtain ⟨a2, vs, e2, h2⟩ := k a1
  exact ⟨a2, us ++ vs, by simp [e, e2], by rw [h1, h2, preC_pre]⟩
theorem cx_bl {c : UInt8} {r : List UInt8} (h : isBl c = true) : Cx (c :: r) [] r := fun a => ⟨a + 1, [], rfl, by rw [cutL_bl h, preC_nil]⟩
theorem cx_tok {c : UInt8} {l r : List UInt8} {t : Tk} (hb : isBl c = false) (h2 : c.toNat ≠ 35) (ho : oneL (c :: l ++ r) = some (t, (c :: l).length)) : Cx (c :: l ++ r) [t] r := fun a => by
  refine ⟨a + (c :: l).length, [(t, a)], rfl, ?_⟩
  have this : cutL a (c :: l ++ r) = preC [(t, a)] (cutL (a + (c :: l).length) ((c :: l ++ r).drop (c :: l).length)) := cutL_some hb h2 ho
  rw [List.drop_left] at this
  exact this
theorem wordN_app : ∀ (w : List UInt8) (b : Bool) {x : UInt8} {r : List UInt8}, wordN b w = w.length → w ≠ [] → wq true x = false → wordN b (w ++ x :: r) = w.length
  | [], _, _, _, _, h, _ => absurd rfl h
  | c :: w, b, x, r, h, _, hx => by
    simp only [wordN, List.length_cons] at h
    simp only [List.cons_append, wordN, List.length_cons]
    split at h
    · rename_i hc
      rw [if_pos hc]
      cases w with
      | nil => simp [wordN, hx]
      | cons d w => rw [wordN_app (d :: w) true (by omega) (by simp) hx]
    · cases h
theorem let_facts {c : UInt8} (h : isLet c = true) : isBl c = false ∧ c.toNat ≠ 35 := by
  simp only [isLet, Bool.and_eq_true, decide_eq_true_eq] at h
  refine ⟨?_, by omega⟩
  simp only [isBl, Bool.or_eq_false_iff, beq_eq_false_iff_ne]; omega
theorem cx_word {c : UInt8} {w : List UInt8} {x : UInt8} {r : List UInt8} (hl : isLet c = true) (hw : wordN false (c :: w) = (c :: w).length) (hx : wq true x = false) : Cx (c :: w ++ x :: r) [⟨1, c :: w, 0⟩] (x :: r) := by
  refine cx_tok (let_facts hl).1 (let_facts hl).2 ?_
  have h := wordN_app (c :: w) false (x := x) (r := r) hw (by simp) hx
  have h' : wordN false (c :: (w ++ x :: r)) = (c :: w).length := h
  show oneL (c :: (w ++ x :: r)) = _
  simp only [oneL, hl, if_true, h']
  congr 3
  rw [show c :: (w ++ x :: r) = c :: w ++ x :: r from rfl, List.take_left]
theorem runN_app {p : UInt8 → Bool} : ∀ {l : List UInt8} {x : UInt8} {r : List UInt8}, (∀ c ∈ l, p c = true) → p x = false → runN p (l ++ x :: r) = l.length
  | [], x, r, _, hx => by simp [runN, hx]
  | c :: l, x, r, h, hx => by
    simp only [List.cons_append, runN, h c (by simp), if_true, List.length_cons]
    rw [runN_app (fun c hc => h c (by simp [hc])) hx]
theorem cx_dec {n : Nat} {r : List UInt8} (hn : n ≤ 4294967295) : Cx (digs 10 n ++ 32 :: r) [⟨2, digs 10 n, (n : Nat)⟩] (32 :: r) := by
  have hall := digs10_all n
  have hh : hexH (digs 10 n ++ 32 :: r) = false := by
    obtain ⟨c, l, e⟩ := digs_cons 10 n
    rw [e] at hall ⊢
    cases l with
    | nil => simp [hexH]
    | cons d l =>
      have := (dig_facts (hall d (by simp))).2.2.2
      simp [hexH, this]
  have hB : nB (digs 10 n ++ 32 :: r) = 10 := by simp [nB, hh]
  have hF : nF (digs 10 n ++ 32 :: r) = 0 := by simp [nF, hh]
  have hN : nN (digs 10 n ++ 32 :: r) = (digs 10 n).length := by
    unfold nN
    rw [hB, hF, Nat.zero_add, List.drop_zero]
    exact runN_app (fun c hc => by simp [inB, hall c hc]) rfl
  have hD : nDs (digs 10 n ++ 32 :: r) = digs 10 n := by
    unfold nDs
    rw [hN, hF, List.drop_zero, List.take_left]
  have hv : numV (digs 10 n ++ 32 :: r) = some n := by
    unfold numV
    rw [hD, hB, puL_digs (by omega) n hn, hN, List.drop_left]
    simp [wordN, wq, isLet]
  obtain ⟨c, l, e⟩ := digs_cons 10 n
  rw [e] at hall hN hv ⊢
  have hd := hall c (by simp)
  obtain ⟨h1, h2, h3, -⟩ := dig_facts hd
  refine cx_tok h2 h3 ?_
  have hv : numV (c :: (l ++ 32 :: r)) = some n := hv
  have hN : nN (c :: (l ++ 32 :: r)) = (c :: l).length := hN
  show oneL (c :: (l ++ 32 :: r)) = _
  simp only [oneL, h1, hd, if_true, Bool.false_eq_true, if_false, hv, Option.map_some, hN]
  congr 3
  rw [show c :: (l ++ 32 :: r) = c :: l ++ 32 :: r from rfl, List.take_left]
theorem cx_quo {t r : List UInt8} (h : StrOk t) : Cx (qL t ++ r) [⟨3, t, 0⟩] r := by
  obtain ⟨e, he, hq⟩ := h
  have e1 : qL t = 34 :: (e ++ [34]) := by unfold qL; rw [he]
  rw [e1]
  refine cx_tok (l := e ++ [34]) rfl (by decide) ?_
  have h1 : isLet 34 = false := rfl
  have h2 : isDig 34 = false := rfl
  have h3 : (34 : UInt8).toNat = 34 := rfl
  show oneL (34 :: (e ++ [34] ++ r)) = _
  have hq' : qd (e ++ [34] ++ r) = some (e.length + 1, t) := by rw [List.append_assoc]; exact hq r
  simp only [oneL, h1, h2, h3, if_true, Bool.false_eq_true, if_false, hq', Option.map_some]
  simp
end Go.Proofs.YtjlicambfepfiaaGreatDoor.Ab

set_option linter.unusedVariables false
set_option linter.unusedSimpArgs false
namespace Go.Proofs.YtjlicambfepfiaaGreatDoor.Ab
open Go Go.RowKit
set_option maxHeartbeats 1000000
set_option maxRecDepth 100000
theorem getL {L : List Value} {k : Nat} {x : Value} (h : L[k]? = some x) : ∀ hk : k < L.length, L[k]'hk = x := fun hk => by
  rw [List.getElem?_eq_getElem hk] at h
  exact Option.some.inj h
/-- Where a parser is, and what was wrong first. -/
structure PS where
  k : Nat
  err : Option (Nat × Nat)
def errV (e : Option (Nat × Nat)) : Value := match e with
  | none => .nilIface
  | some p => faultV p.1 p.2
/-- The parser lies in a block, over tokens that lie in another. -/
def PsAt (m : Mem) (ip it : Nat) (ts : List (Tk × Nat)) (s : PS) : Prop := m.get ip = .own [.slice (some ⟨it, 0, none⟩) ts.length 4, .int .i64 (s.k : Int), errV s.err] 84 ∧ m.get it = .own (ts.flatMap cellP) 87 ∧ ip < m.next ∧ it < m.next ∧ ip ≠ it
/-- Nothing but the parser has changed. -/
def Kept (ip : Nat) (m m' : Mem) : Prop := m.next ≤ m'.next ∧ ∀ i, i < m.next → i ≠ ip → m'.get i = m.get i
theorem Kept.refl (ip : Nat) (m : Mem) : Kept ip m m := ⟨Nat.le_refl _, fun _ _ _ => rfl⟩
theorem Kept.trans {ip : Nat} {a b c : Mem} (h : Kept ip a b) (k : Kept ip b c) : Kept ip a c :=
  ⟨Nat.le_trans h.1 k.1, fun i hi hn => by rw [k.2 i (Nat.lt_of_lt_of_le hi h.1) hn, h.2 i hi hn]⟩
theorem Old.kept {ip : Nat} {a b : Mem} (h : Old a b) : Kept ip a b := ⟨h.1, fun i hi _ => h.2 i hi⟩
theorem PsAt.old {m m' : Mem} {ip it : Nat} {ts : List (Tk × Nat)} {s : PS} (h : PsAt m ip it ts s) (o : Old m m') : PsAt m' ip it ts s :=
  ⟨by rw [o.2 _ h.2.2.1]; exact h.1, by rw [o.2 _ h.2.2.2.1]; exact h.2.1, Nat.lt_of_lt_of_le h.2.2.1 o.1, Nat.lt_of_lt_of_le h.2.2.2.1 o.1, h.2.2.2.2⟩
def tok0 : Tk × Nat := (⟨0, [], 0⟩, 0)
def failF (ts : List (Tk × Nat)) (no : Nat) (s : PS) : PS := match s.err with
  | some e => s
  | none => ⟨s.k, some (no, (ts.getD s.k tok0).2)⟩
def misfit (t : Tk) (kd : Int) (tx : List UInt8) : Bool := (t.kd != kd) || (!tx.isEmpty && t.tx != tx)
def takeF (ts : List (Tk × Nat)) (kd : Int) (tx : List UInt8) (s : PS) : (Tk × Nat) × PS :=
  let s' := if misfit (ts.getD s.k tok0).1 kd tx then failF ts 2 s else s
  match s'.err with
  | some e => (tok0, s')
  | none => (ts.getD s.k tok0, ⟨s.k + 1, none⟩)
/-- What a take answers with, when all that was wrong is said. -/
def takeR (p : Tk × Nat) (s : PS) : (Tk × Nat) × PS := match s.err with
  | some e => (tok0, s)
  | none => (p, ⟨s.k + 1, none⟩)
theorem takeF_eq (ts : List (Tk × Nat)) (kd : Int) (tx : List UInt8) (s : PS) : takeF ts kd tx s = takeR (ts.getD s.k tok0) (if misfit (ts.getD s.k tok0).1 kd tx then failF ts 2 s else s) := by
  obtain ⟨k, err⟩ := s
  simp only [takeF, takeR]
  by_cases h : misfit (ts.getD k tok0).1 kd tx = true
  · simp only [h, if_true]
    cases err <;> simp [failF]
  · simp only [h, if_false]
    cases err <;> simp
theorem w_take1 {w0 : World} {fr : Fr} {base m : Mem} {ip it i6 i7 : Nat} {ts : List (Tk × Nat)} {p : Tk × Nat} {s : PS} {Q : AQ} (h : PsAt m ip it ts s) (hb : Kept ip base m) (hp : ip < base.next) (hpt : it < base.next) (h6 : base.next ≤ i6) (h7 : base.next ≤ i7) (h67 : i6 ≠ i7)
    (e0 : fr 0 = .pointer (some ⟨ip, 0, none⟩)) (e6 : fr 6 = .pointer (some ⟨i6, 0, none⟩)) (e7 : fr 7 = .pointer (some ⟨i7, 0, none⟩)) (g6 : m.get i6 = .own (cellP tok0) 87) (g7 : m.get i7 = .own (cellP p) 87) (hk : s.k < 1000000)
    (hQ : ∀ fr' m', fr' 6 = .pointer (some ⟨i6, 0, none⟩) → m'.get i6 = .own (cellP (takeR p s).1) 87 → Kept ip base m' → PsAt m' ip it ts (takeR p s).2 → Q .ret fr' m') : AbW Tryz.prog w0 rc49_1 Q fr m := by
  obtain ⟨k, err⟩ := s
  obtain ⟨h1, h2, h3, h4, h5⟩ := h
  have hk : k < 1000000 := hk
  have z6 : m.get i6 = .own [.int .i64 0, .string ⟨#[]⟩, .int .i64 0, .int .i64 0] 87 := g6
  cases err with
  | some e =>
    have h1 : m.get ip = .own [.slice (some ⟨it, 0, none⟩) ts.length 4, .int .i64 (k : Int), faultV e.1 e.2] 84 := h1
    simp -implicitDefEqProofs (disch := first | assumption | (simp only [wnA]; done) | (simp only [wnA]; omega) | omega | fail) [rc49_1, wkA, retV, stabOk, dC, ev, fillD, pickCells, putAt, bnd, slD, List.getElem?_cons_zero, List.getElem?_cons_succ, dR.eq_20, Mem.cell, Mem.row, wmA, e0, h1, faultV, e6]
    refine SK_st (i := i6) (o := 0) (by simp [wkA, retV, stabOk, dC, ev, fillD, pickCells, putAt, bnd, slD, List.getElem?_cons_zero, List.getElem?_cons_succ, dR.eq_20, e6]) (e := 87) z6 (by simp) (by simp [wkA, retV, stabOk, dC, ev, fillD, pickCells, putAt, bnd, slD, List.getElem?_cons_zero, List.getElem?_cons_succ, dR.eq_20]) (by simp [wkA, retV, stabOk, dC, ev, fillD, pickCells, putAt, bnd, slD, List.getElem?_cons_zero, List.getElem?_cons_succ, dR.eq_20, oneC]) ?_
    simp -implicitDefEqProofs (disch := first | assumption | (simp only [wnA]; done) | (simp only [wnA]; omega) | omega | fail) [wkA, retV, stabOk, dC, ev, fillD, pickCells, putAt, bnd, slD, List.getElem?_cons_zero, List.getElem?_cons_succ, dR.eq_20, Mem.cell, Mem.row, wmA]
    refine hQ _ _ (by first | exact e6 | simp [e6]) (by simp [takeR, tok0, cellP, Tk.cells]) ⟨hb.1, fun i hi hn => by rw [Mem.set_other _ _ (by omega)]; exact hb.2 i hi hn⟩ ⟨?_, ?_, h3, h4, h5⟩
    · rw [Mem.set_other _ _ (by omega)]; exact h1
    · rw [Mem.set_other _ _ (by omega)]; exact h2
  | none =>
    have h1 : m.get ip = .own [.slice (some ⟨it, 0, none⟩) ts.length 4, .int .i64 (k : Int), .nilIface] 84 := h1
    have w1 : IntKind.i64.wrap ((k : Int) + 1) = (k : Int) + 1 := w64 (by omega)
    have n7p : i7 ≠ ip := by omega
    have n6p : i6 ≠ ip := by omega
    simp -implicitDefEqProofs (disch := first | assumption | (simp only [wnA]; done) | (simp only [wnA]; omega) | omega | fail) [rc49_1, wkA, retV, stabOk, dC, ev, fillD, pickCells, putAt, bnd, slD, List.getElem?_cons_zero, List.getElem?_cons_succ, dR.eq_20, Mem.cell, Mem.row, wmA, e0, h1, e6, rc49_0, w1]
    refine SK_st (i := ip) (o := 1) (by simp [wkA, retV, stabOk, dC, ev, fillD, pickCells, putAt, bnd, slD, List.getElem?_cons_zero, List.getElem?_cons_succ, dR.eq_20]) (e := 84) h1 (by simp) (by simp [wkA, retV, stabOk, dC, ev, fillD, pickCells, putAt, bnd, slD, List.getElem?_cons_zero, List.getElem?_cons_succ, dR.eq_20]) (by simp [wkA, retV, stabOk, dC, ev, fillD, pickCells, putAt, bnd, slD, List.getElem?_cons_zero, List.getElem?_cons_succ, dR.eq_20, oneC]) ?_
    have a6 : (m.set ip (.own [.slice (some ⟨it, 0, none⟩) ts.length 4, .int .i64 ((k : Int) + 1), .nilIface] 84)).get i6 = .own [.int .i64 0, .string ⟨#[]⟩, .int .i64 0, .int .i64 0] 87 := by rw [Mem.set_other _ _ n6p]; exact z6
    have a7 : (m.set ip (.own [.slice (some ⟨it, 0, none⟩) ts.length 4, .int .i64 ((k : Int) + 1), .nilIface] 84)).get i7 = .own [.int .i64 p.1.kd, .string ⟨⟨p.1.tx⟩⟩, .int .i64 p.1.vl, .int .i64 (p.2 : Int)] 87 := by rw [Mem.set_other _ _ n7p]; exact g7
    have z7 : m.get i7 = .own [.int .i64 p.1.kd, .string ⟨⟨p.1.tx⟩⟩, .int .i64 p.1.vl, .int .i64 (p.2 : Int)] 87 := g7
    simp -implicitDefEqProofs (disch := first | assumption | (simp only [wnA]; done) | (simp only [wnA]; omega) | omega | fail) [wkA, retV, stabOk, dC, ev, fillD, pickCells, putAt, bnd, slD, List.getElem?_cons_zero, List.getElem?_cons_succ, dR.eq_20, Mem.cell, Mem.row, wmA, e7, e6, z7]
    refine SK_st (i := i6) (o := 0) (by simp [wkA, retV, stabOk, dC, ev, fillD, pickCells, putAt, bnd, slD, List.getElem?_cons_zero, List.getElem?_cons_succ, dR.eq_20, e6]) (e := 87) a6 (by simp) (by simp [wkA, retV, stabOk, dC, ev, fillD, pickCells, putAt, bnd, slD, List.getElem?_cons_zero, List.getElem?_cons_succ, dR.eq_20]) (by simp [wkA, retV, stabOk, dC, ev, fillD, pickCells, putAt, bnd, slD, List.getElem?_cons_zero, List.getElem?_cons_succ, dR.eq_20, oneC]) ?_
    simp -implicitDefEqProofs (disch := first | assumption | (simp only [wnA]; done) | (simp only [wnA]; omega) | omega | fail) [wkA, retV, stabOk, dC, ev, fillD, pickCells, putAt, bnd, slD, List.getElem?_cons_zero, List.getElem?_cons_succ, dR.eq_20, Mem.cell, Mem.row, wmA]
    refine hQ _ _ (by first | exact e6 | simp [e6]) (by simp [takeR, cellP, Tk.cells]) ⟨hb.1, fun i hi hn => by rw [Mem.set_other _ _ (by omega), Mem.set_other _ _ hn]; exact hb.2 i hi hn⟩ ⟨?_, ?_, h3, h4, h5⟩
    · rw [Mem.set_other _ _ (by omega)]; simp [takeR, errV]
    · rw [Mem.set_other _ _ (by omega), Mem.set_other _ _ (fun e => h5 e.symm)]; exact h2
theorem SK_stv {P : Program} {w0 : World} {ts : Fr} {m : Mem} {R : Value → Mem → Prop} {n i o : Nat} {p x : Operand} {cs vs : List Value} {e : TypeId} (hp : ev ts p = .pointer (some ⟨i, o, none⟩)) (hm : m.get i = .own cs e) (hv : cellsV (ev ts x) = vs) (h1 : o + n ≤ cs.length) (h2 : vs.length = n) (h3 : vs.all oneC = true)
    (hR : R undef (m.set i (.own (putAt cs o vs) e))) : SK P w0 (.e (.st n p x)) ts m R := by
  subst hv
  exact SK_st hp hm h1 h2 h3 hR
/-- Is the next token of a kind, and a text? -/
def isF (ts : List (Tk × Nat)) (kd : Int) (tx : List UInt8) (s : PS) : Bool := s.err.isNone && !misfit (ts.getD s.k tok0).1 kd tx
theorem c_is {w0 : World} {m : Mem} {ip it : Nat} {ts : List (Tk × Nat)} {kd : Int} {tx : List UInt8} {s : PS} {Q : Value → Mem → Prop} (h : PsAt m ip it ts s) (hk : s.k < ts.length) (hl : ts.length ≤ 1000000)
    (hq : ∀ m', Old m m' → Q (.bool (isF ts kd tx s)) m') : AbC Tryz.prog w0 50 [.pointer (some ⟨ip, 0, none⟩), .int .i64 kd, .string ⟨⟨tx⟩⟩] m Q := by
  refine AbC_fn ok50 (by simp) ?_
  have hgd : ts.getD s.k tok0 = ts[s.k] := by simp [List.getD, List.getElem?_eq_getElem hk]
  obtain ⟨h1, h2, h3, h4, h5⟩ := h
  have hidx : sidx 4 (.slice (some ⟨it, 0, none⟩) ts.length 4) (.int .i64 (s.k : Int)) = some (.pointer (some ⟨it, 0 + s.k * 4, none⟩)) := sidx_at hk
  rw [Nat.zero_add] at hidx
  have hb1 : s.k * 4 + 4 ≤ (ts.flatMap cellP).length := by rw [cellsP_len]; omega
  have hg : ((ts.flatMap cellP).drop (s.k * 4)).take 4 = cellP ts[s.k] := flat_at cellP_len ts (List.getElem?_eq_getElem hk)
  unfold isF at hq
  rw [hgd] at hq
  clear hgd
  generalize ts[s.k] = p at *
  obtain ⟨⟨kd0, tx0, vl0⟩, at0⟩ := p
  generalize ts.flatMap cellP = L at *
  have hg : (L.drop (s.k * 4)).take 4 = [.int .i64 kd0, .string ⟨⟨tx0⟩⟩, .int .i64 vl0, .int .i64 (at0 : Int)] := hg
  simp -implicitDefEqProofs (disch := first | assumption | (simp only [wnA]; done) | (simp only [wnA]; omega) | omega | fail) [rc50, ro50, wkA, retV, stabOk, dC, ev, fillD, pickCells, putAt, bnd, slD, List.getElem?_cons_zero, List.getElem?_cons_succ, dR.eq_20, Mem.cell, Mem.row, wmA, h1, h2, hidx, hg, hb1]
  obtain ⟨M, hM⟩ : ∃ M, (m.push (.own [.int .i64 0, .string ⟨#[]⟩, .int .i64 0, .int .i64 0] 87)).set m.next (.own (putAt [.int .i64 0, .string ⟨#[]⟩, .int .i64 0, .int .i64 0] 0 [.int .i64 kd0, .string ⟨⟨tx0⟩⟩, .int .i64 vl0, .int .i64 (at0 : Int)]) 87) = M := ⟨_, rfl⟩
  refine SK_stv (i := m.next) (o := 0) (vs := [.int .i64 kd0, .string ⟨⟨tx0⟩⟩, .int .i64 vl0, .int .i64 (at0 : Int)]) (cs := [.int .i64 0, .string ⟨#[]⟩, .int .i64 0, .int .i64 0]) (e := 87) (by simp [wkA, retV, stabOk, dC, ev, fillD, pickCells, putAt, bnd, slD, List.getElem?_cons_zero, List.getElem?_cons_succ, dR.eq_20]) (by simp -implicitDefEqProofs (disch := first | assumption | (simp only [wnA]; done) | (simp only [wnA]; omega) | omega | fail) [wkA, retV, stabOk, dC, ev, fillD, pickCells, putAt, bnd, slD, List.getElem?_cons_zero, List.getElem?_cons_succ, dR.eq_20, Mem.cell, Mem.row, wmA]) (by simp [wkA, retV, stabOk, dC, ev, fillD, pickCells, putAt, bnd, slD, List.getElem?_cons_zero, List.getElem?_cons_succ, dR.eq_20]) (by simp) rfl rfl ?_
  rw [hM]
  have oM : Old m M := by subst hM; exact ((Old.refl m).push _).set (Nat.le_refl _) _
  have gM : M.get m.next = .own [.int .i64 kd0, .string ⟨⟨tx0⟩⟩, .int .i64 vl0, .int .i64 (at0 : Int)] 87 := by subst hM; rw [Mem.set_same]; rfl
  have gp : M.get ip = .own [.slice (some ⟨it, 0, none⟩) ts.length 4, .int .i64 (s.k : Int), errV s.err] 84 := (oM.2 ip h3).trans h1
  have hq := hq M oM
  obtain ⟨k, err⟩ := s
  cases err with
  | some e =>
    have gp : M.get ip = .own [.slice (some ⟨it, 0, none⟩) ts.length 4, .int .i64 (k : Int), faultV e.1 e.2] 84 := gp
    simp -implicitDefEqProofs (disch := first | assumption | (simp only [wnA]; done) | (simp only [wnA]; omega) | omega | fail) [wkA, retV, stabOk, dC, ev, fillD, pickCells, putAt, bnd, slD, List.getElem?_cons_zero, List.getElem?_cons_succ, dR.eq_20, Mem.cell, Mem.row, wmA, gM, gp, faultV]
    exact hq
  | none =>
    have gp : M.get ip = .own [.slice (some ⟨it, 0, none⟩) ts.length 4, .int .i64 (k : Int), .nilIface] 84 := gp
    by_cases c1 : kd0 = kd
    · by_cases c2 : tx = []
      · simp -implicitDefEqProofs (disch := first | assumption | (simp only [wnA]; done) | (simp only [wnA]; omega) | omega | fail) [wkA, retV, stabOk, dC, ev, fillD, pickCells, putAt, bnd, slD, List.getElem?_cons_zero, List.getElem?_cons_succ, dR.eq_20, Mem.cell, Mem.row, wmA, gM, gp, c1, c2]
        simpa [misfit, c1, c2] using hq
      · have c2' : tx.isEmpty = false := by cases tx <;> simp at c2 ⊢
        by_cases c3 : tx0 = tx
        · simp -implicitDefEqProofs (disch := first | assumption | (simp only [wnA]; done) | (simp only [wnA]; omega) | omega | fail) [wkA, retV, stabOk, dC, ev, fillD, pickCells, putAt, bnd, slD, List.getElem?_cons_zero, List.getElem?_cons_succ, dR.eq_20, Mem.cell, Mem.row, wmA, gM, gp, c1, c2', c3]
          simpa [misfit, c1, c2', c3] using hq
        · have c3' : (tx0 == tx) = false := by simpa using c3
          simp -implicitDefEqProofs (disch := first | assumption | (simp only [wnA]; done) | (simp only [wnA]; omega) | omega | fail) [wkA, retV, stabOk, dC, ev, fillD, pickCells, putAt, bnd, slD, List.getElem?_cons_zero, List.getElem?_cons_succ, dR.eq_20, Mem.cell, Mem.row, wmA, gM, gp, c1, c2', c3']
          have hm : misfit ⟨kd0, tx0, vl0⟩ kd tx = true := by simp [misfit, c1, c2', bne, c3']
          simpa [hm] using hq
    · have hm : misfit ⟨kd0, tx0, vl0⟩ kd tx = true := by rw [misfit, bneT c1]; rfl
      simp -implicitDefEqProofs (disch := first | assumption | (simp only [wnA]; done) | (simp only [wnA]; omega) | omega | fail) [wkA, retV, stabOk, dC, ev, fillD, pickCells, putAt, bnd, slD, List.getElem?_cons_zero, List.getElem?_cons_succ, dR.eq_20, Mem.cell, Mem.row, wmA, gM, gp, beqF c1]
      simpa [hm] using hq
theorem c_take {w0 : World} {m : Mem} {ip it : Nat} {ts : List (Tk × Nat)} {kd : Int} {tx : List UInt8} {s : PS} {Q : Value → Mem → Prop} (h : PsAt m ip it ts s) (hk : s.k < ts.length) (hl : ts.length ≤ 1000000)
    (hq : ∀ m', Kept ip m m' → PsAt m' ip it ts (takeF ts kd tx s).2 → Q (.agg ⟨cellP (takeF ts kd tx s).1⟩) m') : AbC Tryz.prog w0 49 [.pointer (some ⟨ip, 0, none⟩), .int .i64 kd, .string ⟨⟨tx⟩⟩] m Q := by
  refine AbC_fn ok49 (by simp) ?_
  rw [takeF_eq] at hq
  have hgd : ts.getD s.k tok0 = ts[s.k] := by simp [List.getD, List.getElem?_eq_getElem hk]
  have hisF : isF ts kd tx s = (s.err.isNone && !misfit ts[s.k].1 kd tx) := by unfold isF; rw [hgd]
  have hfl : failF ts 2 s = (match s.err with | some e => s | none => ⟨s.k, some (2, ts[s.k].2)⟩) := by unfold failF; rw [hgd]
  obtain ⟨h1, h2, h3, h4, h5⟩ := h
  have hidx : sidx 4 (.slice (some ⟨it, 0, none⟩) ts.length 4) (.int .i64 (s.k : Int)) = some (.pointer (some ⟨it, 0 + s.k * 4, none⟩)) := sidx_at hk
  rw [Nat.zero_add] at hidx
  have hb1 : s.k * 4 + 4 ≤ (ts.flatMap cellP).length := by rw [cellsP_len]; omega
  have hg : ((ts.flatMap cellP).drop (s.k * 4)).take 4 = cellP ts[s.k] := flat_at cellP_len ts (List.getElem?_eq_getElem hk)
  rw [hgd] at hq
  clear hgd
  generalize ts[s.k] = p at *
  obtain ⟨⟨kd0, tx0, vl0⟩, at0⟩ := p
  obtain ⟨L, hL⟩ : ∃ L, ts.flatMap cellP = L := ⟨_, rfl⟩
  rw [hL] at h2 hg hb1
  have hg : (L.drop (s.k * 4)).take 4 = [.int .i64 kd0, .string ⟨⟨tx0⟩⟩, .int .i64 vl0, .int .i64 (at0 : Int)] := hg
  simp -implicitDefEqProofs (disch := first | assumption | (simp only [wnA]; done) | (simp only [wnA]; omega) | omega | fail) [rc49, ro49, wkA, retV, stabOk, dC, ev, fillD, pickCells, putAt, bnd, slD, List.getElem?_cons_zero, List.getElem?_cons_succ, dR.eq_20, Mem.cell, Mem.row, wmA, h1, h2, hidx, hg, hb1]
  obtain ⟨M, hM⟩ : ∃ M, ((m.push (.own [.int .i64 0, .string ⟨#[]⟩, .int .i64 0, .int .i64 0] 87)).push (.own [.int .i64 0, .string ⟨#[]⟩, .int .i64 0, .int .i64 0] 87)).set (m.next + 1) (.own (putAt [.int .i64 0, .string ⟨#[]⟩, .int .i64 0, .int .i64 0] 0 [.int .i64 kd0, .string ⟨⟨tx0⟩⟩, .int .i64 vl0, .int .i64 (at0 : Int)]) 87) = M := ⟨_, rfl⟩
  refine SK_stv (i := m.next + 1) (o := 0) (vs := [.int .i64 kd0, .string ⟨⟨tx0⟩⟩, .int .i64 vl0, .int .i64 (at0 : Int)]) (cs := [.int .i64 0, .string ⟨#[]⟩, .int .i64 0, .int .i64 0]) (e := 87) (by simp [wkA, retV, stabOk, dC, ev, fillD, pickCells, putAt, bnd, slD, List.getElem?_cons_zero, List.getElem?_cons_succ, dR.eq_20]) (by simp -implicitDefEqProofs (disch := first | assumption | (simp only [wnA]; done) | (simp only [wnA]; omega) | omega | fail) [wkA, retV, stabOk, dC, ev, fillD, pickCells, putAt, bnd, slD, List.getElem?_cons_zero, List.getElem?_cons_succ, dR.eq_20, Mem.cell, Mem.row, wmA]) (by simp [wkA, retV, stabOk, dC, ev, fillD, pickCells, putAt, bnd, slD, List.getElem?_cons_zero, List.getElem?_cons_succ, dR.eq_20]) (by simp) rfl rfl ?_
  rw [hM]
  have oM : Old m M := by subst hM; exact (((Old.refl m).push _).push _).set (by omega) _
  have g6 : M.get m.next = .own [.int .i64 0, .string ⟨#[]⟩, .int .i64 0, .int .i64 0] 87 := by subst hM; rw [Mem.set_other _ _ (by omega), Mem.push_old _ _ (by simp), Mem.push_same]
  have g7 : M.get (m.next + 1) = .own [.int .i64 kd0, .string ⟨⟨tx0⟩⟩, .int .i64 vl0, .int .i64 (at0 : Int)] 87 := by subst hM; rw [Mem.set_same]; rfl
  have nM : m.next + 2 ≤ M.next := by subst hM; simp
  clear hM
  have pM : PsAt M ip it ts s := PsAt.old ⟨h1, by rw [hL]; exact h2, h3, h4, h5⟩ oM
  have go : ∀ (s' : PS) (fr : Fr) (m1 : Mem), s'.k < 1000000 → (if misfit ⟨kd0, tx0, vl0⟩ kd tx then failF ts 2 s else s) = s' → Kept ip m m1 → PsAt m1 ip it ts s' → m1.get m.next = M.get m.next → m1.get (m.next + 1) = M.get (m.next + 1) → fr 0 = .pointer (some ⟨ip, 0, none⟩) → fr 6 = .pointer (some ⟨m.next, 0, none⟩) → fr 7 = .pointer (some ⟨m.next + 1, 0, none⟩) → AbW Tryz.prog w0 rc49_1 (bodyA ro49 Q) fr m1 := fun s' fr m1 hk' hs' hK hP e6' e7' f0 f6 f7 =>
    w_take1 (p := (⟨kd0, tx0, vl0⟩, at0)) hP hK h3 h4 (Nat.le_refl _) (by omega) (by omega) f0 f6 f7 (by rw [e6', g6]; rfl) (by rw [e7', g7]; rfl) hk' fun fr' m' x6 gx kx px => by
      have gx : m'.get m.next = .own (cellP (takeR (⟨kd0, tx0, vl0⟩, at0) s').1) 87 := gx
      have hq := hq m' kx (by rw [hs']; exact px)
      rw [hs'] at hq
      have hlen : 4 ≤ (cellP (takeR (⟨kd0, tx0, vl0⟩, at0) s').1).length := by rw [cellP_len]; omega
      have htk : (cellP (takeR (⟨kd0, tx0, vl0⟩, at0) s').1).take 4 = cellP (takeR (⟨kd0, tx0, vl0⟩, at0) s').1 := List.take_of_length_le (by rw [cellP_len]; omega)
      generalize cellP (takeR (⟨kd0, tx0, vl0⟩, at0) s').1 = C at *
      simp -implicitDefEqProofs (disch := first | assumption | (simp only [wnA]; done) | (simp only [wnA]; omega) | omega | fail) [ro49, wkA, retV, stabOk, dC, ev, fillD, pickCells, putAt, bnd, slD, List.getElem?_cons_zero, List.getElem?_cons_succ, dR.eq_20, Mem.cell, Mem.row, wmA, x6, gx, hlen, htk]
      exact hq
  obtain ⟨k, err⟩ := s
  have hk : k < ts.length := hk
  cases err with
  | some e =>
    have gp : M.get ip = .own [.slice (some ⟨it, 0, none⟩) ts.length 4, .int .i64 (k : Int), faultV e.1 e.2] 84 := pM.1
    simp -implicitDefEqProofs (disch := first | assumption | (simp only [wnA]; done) | (simp only [wnA]; omega) | omega | fail) [wkA, retV, stabOk, dC, ev, fillD, pickCells, putAt, bnd, slD, List.getElem?_cons_zero, List.getElem?_cons_succ, dR.eq_20, Mem.cell, Mem.row, wmA, gp, faultV]
    refine go ⟨k, some e⟩ _ M (by show k < _; omega) ?_ oM.kept pM rfl rfl (by simp [frA_at]) (by simp) (by simp)
    rw [hfl]
    split <;> rfl
  | none =>
    have gp : M.get ip = .own [.slice (some ⟨it, 0, none⟩) ts.length 4, .int .i64 (k : Int), .nilIface] 84 := pM.1
    simp -implicitDefEqProofs (disch := first | assumption | (simp only [wnA]; done) | (simp only [wnA]; omega) | omega | fail) [wkA, retV, stabOk, dC, ev, fillD, pickCells, putAt, bnd, slD, List.getElem?_cons_zero, List.getElem?_cons_succ, dR.eq_20, Mem.cell, Mem.row, wmA, gp]
    refine c_is pM hk hl fun m2 o2 => ?_
    rw [hisF]
    have p2 := pM.old o2
    have e6 := o2.2 m.next (by omega)
    have e7 := o2.2 (m.next + 1) (by omega)
    cases hm : misfit ⟨kd0, tx0, vl0⟩ kd tx with
    | false =>
      simp -implicitDefEqProofs (disch := first | assumption | (simp only [wnA]; done) | (simp only [wnA]; omega) | omega | fail) [wkA, retV, stabOk, dC, ev, fillD, pickCells, putAt, bnd, slD, List.getElem?_cons_zero, List.getElem?_cons_succ, dR.eq_20, Mem.cell, Mem.row, wmA, hm]
      exact go ⟨k, none⟩ _ m2 (by show k < _; omega) (by rw [hm]; rfl) (oM.trans o2).kept p2 e6 e7 (by simp [frA_at]) (by simp) (by simp)
    | true =>
      have g72 := e7.trans g7
      have gp2 := p2.1
      simp -implicitDefEqProofs (disch := first | assumption | (simp only [wnA]; done) | (simp only [wnA]; omega) | omega | fail) [wkA, retV, stabOk, dC, ev, fillD, pickCells, putAt, bnd, slD, List.getElem?_cons_zero, List.getElem?_cons_succ, dR.eq_20, Mem.cell, Mem.row, wmA, hm, g72]
      refine c_Wrap ?_
      simp -implicitDefEqProofs (disch := first | assumption | (simp only [wnA]; done) | (simp only [wnA]; omega) | omega | fail) [wkA, retV, stabOk, dC, ev, fillD, pickCells, putAt, bnd, slD, List.getElem?_cons_zero, List.getElem?_cons_succ, dR.eq_20, Mem.cell, Mem.row, wmA]
      refine SK_stv (i := ip) (o := 2) (vs := [faultV 2 at0]) (e := 84) (by simp [wkA, retV, stabOk, dC, ev, fillD, pickCells, putAt, bnd, slD, List.getElem?_cons_zero, List.getElem?_cons_succ, dR.eq_20]) gp2 (by simp [wkA, retV, stabOk, dC, ev, fillD, pickCells, putAt, bnd, slD, List.getElem?_cons_zero, List.getElem?_cons_succ, dR.eq_20, faultV]) (by simp) rfl rfl ?_
      have gpn : putAt [.slice (some ⟨it, 0, none⟩) ts.length 4, .int .i64 (k : Int), errV none] 2 [faultV 2 at0] = [.slice (some ⟨it, 0, none⟩) ts.length 4, .int .i64 (k : Int), faultV 2 at0] := rfl
      obtain ⟨M3, hM3⟩ : ∃ M3, m2.set ip (.own (putAt [.slice (some ⟨it, 0, none⟩) ts.length 4, .int .i64 (k : Int), errV none] 2 [faultV 2 at0]) 84) = M3 := ⟨_, rfl⟩
      have K3 : Kept ip m2 M3 := by subst hM3; exact ⟨Nat.le_refl _, fun i hi hn => Mem.set_other _ _ hn⟩
      have p3 : PsAt M3 ip it ts ⟨k, some (2, at0)⟩ := by
        subst hM3
        exact ⟨by rw [Mem.set_same]; rfl, by rw [Mem.set_other _ _ (fun e => p2.2.2.2.2 e.symm)]; exact p2.2.1, p2.2.2.1, p2.2.2.2.1, p2.2.2.2.2⟩
      rw [hM3]
      simp -implicitDefEqProofs (disch := first | assumption | (simp only [wnA]; done) | (simp only [wnA]; omega) | omega | fail) [wkA, retV, stabOk, dC, ev, fillD, pickCells, putAt, bnd, slD, List.getElem?_cons_zero, List.getElem?_cons_succ, dR.eq_20, Mem.cell, Mem.row, wmA]
      exact go ⟨k, some (2, at0)⟩ _ M3 (by show k < _; omega) (by rw [hm, hfl]; rfl) ((oM.trans o2).kept.trans K3) p3 (by rw [K3.2 _ (by have := o2.1; omega) (by omega), e6]) (by rw [K3.2 _ (by have := o2.1; omega) (by omega), e7]) (by simp [frA_at]) (by simp) (by simp)
end Go.Proofs.YtjlicambfepfiaaGreatDoor.Ab

set_option linter.unusedVariables false
set_option linter.unusedSimpArgs false
namespace Go.Proofs.YtjlicambfepfiaaGreatDoor.Ab
open Go Go.RowKit
set_option maxHeartbeats 4000000
set_option maxRecDepth 100000
theorem failF_k (ts : List (Tk × Nat)) (no : Nat) (s : PS) : (failF ts no s).k = s.k := by unfold failF; cases s.err <;> rfl
/-- The last token is the text's end. -/
def EndOk (ts : List (Tk × Nat)) : Prop := (ts.getD (ts.length - 1) tok0).1.kd = 0
theorem takeF_k {ts : List (Tk × Nat)} {kd : Int} {tx : List UInt8} {s : PS} (he : EndOk ts) (hk : s.k < ts.length) (h0 : kd ≠ 0) : (takeF ts kd tx s).2.k < ts.length := by
  rw [takeF_eq]
  unfold takeR
  split
  · split
    · rw [failF_k]; exact hk
    · exact hk
  · rename_i h
    split at h
    · exfalso
      unfold failF at h
      split at h
      · rename_i e he'; rw [he'] at h; cases h
      · cases h
    · rename_i hm
      rw [if_neg hm]
      have hkd : (ts.getD s.k tok0).1.kd = kd := by
        rcases Classical.em ((ts.getD s.k tok0).1.kd = kd) with h | h
        · exact h
        · exact absurd (show misfit (ts.getD s.k tok0).1 kd tx = true by unfold misfit; rw [bneT h]; rfl) hm
      have : s.k ≠ ts.length - 1 := fun e => h0 (by rw [← hkd, e]; exact he)
      show s.k + 1 < ts.length
      omega
theorem cellP_mk (kd : Int) (tx : List UInt8) (vl : Int) (a : Nat) : cellP (⟨kd, tx, vl⟩, a) = [.int .i64 kd, .string ⟨⟨tx⟩⟩, .int .i64 vl, .int .i64 (a : Int)] := rfl
theorem step_set {base m : Mem} {ip it i3 : Nat} {ts : List (Tk × Nat)} {s : PS} {x : Ent} (KB : Kept ip base m) (p : PsAt m ip it ts s) (h3 : base.next ≤ i3) (hip : ip < base.next) (hit : it < base.next) :
    ∃ M, m.set i3 x = M ∧ Kept ip base M ∧ PsAt M ip it ts s ∧ M.get i3 = x ∧ (∀ i, i ≠ i3 → M.get i = m.get i) ∧ M.next = m.next :=
  ⟨_, rfl, ⟨KB.1, fun i hi hn => by rw [Mem.set_other _ _ (by omega)]; exact KB.2 i hi hn⟩, ⟨by rw [Mem.set_other _ _ (by omega)]; exact p.1, by rw [Mem.set_other _ _ (by omega)]; exact p.2.1, p.2.2.1, p.2.2.2.1, p.2.2.2.2⟩, by rw [Mem.set_same], fun i hi => Mem.set_other _ _ hi, rfl⟩
theorem takeF_none {ts : List (Tk × Nat)} {kd : Int} {tx : List UInt8} {s : PS} (h : (takeF ts kd tx s).2.err = none) : s.err = none ∧ misfit (ts.getD s.k tok0).1 kd tx = false ∧ takeF ts kd tx s = (ts.getD s.k tok0, ⟨s.k + 1, none⟩) := by
  rw [takeF_eq] at h ⊢
  obtain ⟨k, err⟩ := s
  cases hm : misfit (ts.getD k tok0).1 kd tx with
  | true =>
    simp only [hm, if_true] at h
    exfalso
    cases err <;> simp [failF, takeR] at h
  | false =>
    simp only [hm] at h ⊢
    cases err with
    | some e => simp [takeR] at h
    | none => exact ⟨rfl, trivial, by simp [takeR]⟩
theorem takeF_fit {ts : List (Tk × Nat)} {kd : Int} {tx : List UInt8} {k : Nat} (h : misfit (ts.getD k tok0).1 kd tx = false) : takeF ts kd tx ⟨k, none⟩ = (ts.getD k tok0, ⟨k + 1, none⟩) := by
  rw [takeF_eq]
  show takeR (ts.getD k tok0) (if misfit (ts.getD k tok0).1 kd tx = true then _ else _) = _
  rw [h]
  rfl
theorem kept_old {ip : Nat} {b m : Mem} (h : Kept ip b m) : Old (b.set ip (m.get ip)) m :=
  ⟨h.1, fun i hi => by
    rcases Classical.em (i = ip) with e | e
    · subst e; rw [Mem.set_same]
    · rw [Mem.set_other _ _ e]; exact h.2 i hi e⟩
theorem SK_appP {P : Program} {w0 : World} {ts : Fr} {m base : Mem} {R : Value → Mem → Prop} {e sz bytes n k : Nat} {ob : Option Nat} {cs ys : List Value} {x y : Operand} (hb : Old base m) (h : SlO m e sz ob cs n) (hob : ∀ b, ob = some b → base.next ≤ b)
    (hx : ev ts x = slV ob n sz) (hy : elemsV m sz (ev ts y) = some ys) (hk : lenV (ev ts y) = k) (hpos : 0 < k) (h1 : ys.all oneC = true) (h2 : (n + k) * bytes ≤ 140737488355328) (h3 : n + k ≤ maxLen) (hl : ys.length = k * sz)
    (hR : ∀ ob' m', Old base m' → SlO m' e sz ob' (cs ++ ys) (n + k) → (∀ b, ob' = some b → base.next ≤ b) → R (slV ob' (n + k) sz) m') : SK P w0 (.e (.app e sz bytes x y)) ts m R := by
  refine SK_ap h hx hy hk hpos h1 h2 h3 hl (hR _ _ ((hb.kill hob).push _) (SlO.new ?_) ?_)
  · rw [List.length_append, h.1, hl, Nat.add_mul]
  · intro b hb'; cases hb'; exact hb.1
theorem misfit_kd {t : Tk} {kd : Int} {tx : List UInt8} (h : misfit t kd tx = false) : t.kd = kd := by
  rcases Classical.em (t.kd = kd) with e | e
  · exact e
  · rw [misfit, bneT e] at h; cases h
/-- A number from 1 up to some. -/
def numR (most : Int) (r : (Tk × Nat) × PS) : PS := match r.2.err with
  | some e => r.2
  | none => if r.1.1.vl < 1 ∨ most < r.1.1.vl then ⟨r.2.k, some (5, r.1.2)⟩ else r.2
def numF (most : Int) (ts : List (Tk × Nat)) (s : PS) : Int × PS := ((takeF ts 2 [] s).1.1.vl, numR most (takeF ts 2 [] s))
def goL : List UInt8 := [103, 111]
def toF (ts : List (Tk × Nat)) (s : PS) : List UInt8 × PS := ((takeF ts 1 [] (takeF ts 1 goL s).2).1.1.tx, (takeF ts 1 [] (takeF ts 1 goL s).2).2)
theorem numR_k (most : Int) (r : (Tk × Nat) × PS) : (numR most r).k = r.2.k := by
  unfold numR
  split
  · rfl
  · split <;> rfl
theorem numF_k {most : Int} {ts : List (Tk × Nat)} {s : PS} (he : EndOk ts) (hk : s.k < ts.length) : (numF most ts s).2.k < ts.length := by
  show (numR most _).k < _
  rw [numR_k]; exact takeF_k he hk (by decide)
theorem toF_k {ts : List (Tk × Nat)} {s : PS} (he : EndOk ts) (hk : s.k < ts.length) : (toF ts s).2.k < ts.length := takeF_k he (takeF_k he hk (by decide)) (by decide)
theorem c_number {w0 : World} {m : Mem} {ip it : Nat} {ts : List (Tk × Nat)} {most : Int} {s : PS} {Q : Value → Mem → Prop} (h : PsAt m ip it ts s) (hk : s.k < ts.length) (hl : ts.length ≤ 1000000)
    (hq : ∀ m', Kept ip m m' → PsAt m' ip it ts (numF most ts s).2 → Q (.int .i64 (numF most ts s).1) m') : AbC Tryz.prog w0 53 [.pointer (some ⟨ip, 0, none⟩), .int .i64 most] m Q := by
  refine AbC_fn ok53 (by simp) ?_
  simp -implicitDefEqProofs (disch := first | assumption | (simp only [wnA]; done) | (simp only [wnA]; omega) | omega | fail) [rc53, ro53, wkA, retV, stabOk, dC, ev, fillD, pickCells, putAt, bnd, slD, List.getElem?_cons_zero, List.getElem?_cons_succ, dR.eq_20, Mem.cell, Mem.row, wmA]
  refine c_take (kd := 2) (tx := []) h hk hl fun m1 k1 p1 => ?_
  have hq : ∀ m', Kept ip m m' → PsAt m' ip it ts (numR most (takeF ts 2 [] s)) → Q (.int .i64 (takeF ts 2 [] s).1.1.vl) m' := hq
  generalize takeF ts 2 [] s = r at *
  obtain ⟨⟨⟨kd0, tx0, vl0⟩, at0⟩, s1⟩ := r
  simp only at p1 hq
  simp -implicitDefEqProofs (disch := first | assumption | (simp only [wnA]; done) | (simp only [wnA]; omega) | omega | fail) [wkA, retV, stabOk, dC, ev, fillD, pickCells, putAt, bnd, slD, List.getElem?_cons_zero, List.getElem?_cons_succ, dR.eq_20, Mem.cell, Mem.row, wmA, cellP_mk]
  obtain ⟨M, hM⟩ : ∃ M, (m1.push (.own [.int .i64 0, .string ⟨#[]⟩, .int .i64 0, .int .i64 0] 87)).set m1.next (.own (putAt [.int .i64 0, .string ⟨#[]⟩, .int .i64 0, .int .i64 0] 0 [.int .i64 kd0, .string ⟨⟨tx0⟩⟩, .int .i64 vl0, .int .i64 (at0 : Int)]) 87) = M := ⟨_, rfl⟩
  refine SK_stv (i := m1.next) (o := 0) (vs := [.int .i64 kd0, .string ⟨⟨tx0⟩⟩, .int .i64 vl0, .int .i64 (at0 : Int)]) (cs := [.int .i64 0, .string ⟨#[]⟩, .int .i64 0, .int .i64 0]) (e := 87) (by simp [wkA, retV, stabOk, dC, ev, fillD, pickCells, putAt, bnd, slD, List.getElem?_cons_zero, List.getElem?_cons_succ, dR.eq_20]) (by simp -implicitDefEqProofs (disch := first | assumption | (simp only [wnA]; done) | (simp only [wnA]; omega) | omega | fail) [wkA, retV, stabOk, dC, ev, fillD, pickCells, putAt, bnd, slD, List.getElem?_cons_zero, List.getElem?_cons_succ, dR.eq_20, Mem.cell, Mem.row, wmA]) (by simp [wkA, retV, stabOk, dC, ev, fillD, pickCells, putAt, bnd, slD, List.getElem?_cons_zero, List.getElem?_cons_succ, dR.eq_20, cellP_mk]) (by simp) rfl rfl ?_
  rw [hM]
  have oM : Old m1 M := by subst hM; exact ((Old.refl m1).push _).set (Nat.le_refl _) _
  have gM : M.get m1.next = .own [.int .i64 kd0, .string ⟨⟨tx0⟩⟩, .int .i64 vl0, .int .i64 (at0 : Int)] 87 := by subst hM; rw [Mem.set_same]; rfl
  have pM := p1.old oM
  have kM := k1.trans oM.kept
  have gp := pM.1
  obtain ⟨k, err⟩ := s1
  cases err with
  | some e =>
    have gp : M.get ip = .own [.slice (some ⟨it, 0, none⟩) ts.length 4, .int .i64 (k : Int), faultV e.1 e.2] 84 := gp
    simp -implicitDefEqProofs (disch := first | assumption | (simp only [wnA]; done) | (simp only [wnA]; omega) | omega | fail) [wkA, retV, stabOk, dC, ev, fillD, pickCells, putAt, bnd, slD, List.getElem?_cons_zero, List.getElem?_cons_succ, dR.eq_20, Mem.cell, Mem.row, wmA, gp, gM, faultV, rc53_0]
    exact hq M kM pM
  | none =>
    have gp : M.get ip = .own [.slice (some ⟨it, 0, none⟩) ts.length 4, .int .i64 (k : Int), .nilIface] 84 := gp
    have fin : ∀ (fr : Fr), fr 0 = .pointer (some ⟨ip, 0, none⟩) → True := fun _ _ => trivial
    have bad : (vl0 < 1 ∨ most < vl0) → numR most ((⟨kd0, tx0, vl0⟩, at0), ⟨k, none⟩) = ⟨k, some (5, at0)⟩ := fun h => by
      simp only [numR]; rw [if_pos h]
    have good : ¬ (vl0 < 1 ∨ most < vl0) → numR most ((⟨kd0, tx0, vl0⟩, at0), ⟨k, none⟩) = ⟨k, none⟩ := fun h => by
      simp only [numR]; rw [if_neg h]
    have badst : ∃ M3, M.set ip (.own (putAt [.slice (some ⟨it, 0, none⟩) ts.length 4, .int .i64 (k : Int), .nilIface] 2 [faultV 5 at0]) 84) = M3 ∧ Kept ip M M3 ∧ PsAt M3 ip it ts ⟨k, some (5, at0)⟩ ∧ M3.get m1.next = M.get m1.next := by
      refine ⟨_, rfl, ⟨Nat.le_refl _, fun i hi hn => Mem.set_other _ _ hn⟩, ⟨by rw [Mem.set_same]; rfl, by rw [Mem.set_other _ _ (fun e => pM.2.2.2.2 e.symm)]; exact pM.2.1, pM.2.2.1, pM.2.2.2.1, pM.2.2.2.2⟩, ?_⟩
      exact Mem.set_other _ _ (by have := k1.1; have := h.2.2.1; omega)
    obtain ⟨M3, hM3, K3, p3, g3⟩ := badst
    rw [gM] at g3
    have rc : vl0 < 1 ∨ (1 ≤ vl0 ∧ most < vl0) ∨ (1 ≤ vl0 ∧ vl0 ≤ most) := by omega
    rcases rc with c | ⟨c, c2⟩ | ⟨c, c2⟩
    · rw [bad (.inl c)] at hq
      simp -implicitDefEqProofs (disch := first | assumption | (simp only [wnA]; done) | (simp only [wnA]; omega) | omega | fail) [wkA, retV, stabOk, dC, ev, fillD, pickCells, putAt, bnd, slD, List.getElem?_cons_zero, List.getElem?_cons_succ, dR.eq_20, Mem.cell, Mem.row, wmA, gp, gM, ltT c]
      refine c_Wrap ?_
      simp -implicitDefEqProofs (disch := first | assumption | (simp only [wnA]; done) | (simp only [wnA]; omega) | omega | fail) [wkA, retV, stabOk, dC, ev, fillD, pickCells, putAt, bnd, slD, List.getElem?_cons_zero, List.getElem?_cons_succ, dR.eq_20, Mem.cell, Mem.row, wmA]
      refine SK_stv (i := ip) (o := 2) (vs := [faultV 5 at0]) (e := 84) (by simp [wkA, retV, stabOk, dC, ev, fillD, pickCells, putAt, bnd, slD, List.getElem?_cons_zero, List.getElem?_cons_succ, dR.eq_20]) gp (by simp [wkA, retV, stabOk, dC, ev, fillD, pickCells, putAt, bnd, slD, List.getElem?_cons_zero, List.getElem?_cons_succ, dR.eq_20, faultV]) (by simp) rfl rfl ?_
      rw [hM3]
      simp -implicitDefEqProofs (disch := first | assumption | (simp only [wnA]; done) | (simp only [wnA]; omega) | omega | fail) [wkA, retV, stabOk, dC, ev, fillD, pickCells, putAt, bnd, slD, List.getElem?_cons_zero, List.getElem?_cons_succ, dR.eq_20, Mem.cell, Mem.row, wmA, rc53_0, g3]
      exact hq M3 (kM.trans K3) p3
    · rw [bad (.inr c2)] at hq
      simp -implicitDefEqProofs (disch := first | assumption | (simp only [wnA]; done) | (simp only [wnA]; omega) | omega | fail) [wkA, retV, stabOk, dC, ev, fillD, pickCells, putAt, bnd, slD, List.getElem?_cons_zero, List.getElem?_cons_succ, dR.eq_20, Mem.cell, Mem.row, wmA, gp, gM, ltF c, gtT c2]
      refine c_Wrap ?_
      simp -implicitDefEqProofs (disch := first | assumption | (simp only [wnA]; done) | (simp only [wnA]; omega) | omega | fail) [wkA, retV, stabOk, dC, ev, fillD, pickCells, putAt, bnd, slD, List.getElem?_cons_zero, List.getElem?_cons_succ, dR.eq_20, Mem.cell, Mem.row, wmA]
      refine SK_stv (i := ip) (o := 2) (vs := [faultV 5 at0]) (e := 84) (by simp [wkA, retV, stabOk, dC, ev, fillD, pickCells, putAt, bnd, slD, List.getElem?_cons_zero, List.getElem?_cons_succ, dR.eq_20]) gp (by simp [wkA, retV, stabOk, dC, ev, fillD, pickCells, putAt, bnd, slD, List.getElem?_cons_zero, List.getElem?_cons_succ, dR.eq_20, faultV]) (by simp) rfl rfl ?_
      rw [hM3]
      simp -implicitDefEqProofs (disch := first | assumption | (simp only [wnA]; done) | (simp only [wnA]; omega) | omega | fail) [wkA, retV, stabOk, dC, ev, fillD, pickCells, putAt, bnd, slD, List.getElem?_cons_zero, List.getElem?_cons_succ, dR.eq_20, Mem.cell, Mem.row, wmA, rc53_0, g3]
      exact hq M3 (kM.trans K3) p3
    · rw [good (by omega)] at hq
      simp -implicitDefEqProofs (disch := first | assumption | (simp only [wnA]; done) | (simp only [wnA]; omega) | omega | fail) [wkA, retV, stabOk, dC, ev, fillD, pickCells, putAt, bnd, slD, List.getElem?_cons_zero, List.getElem?_cons_succ, dR.eq_20, Mem.cell, Mem.row, wmA, gp, gM, ltF c, gtF c2, rc53_0]
      exact hq M kM pM
theorem c_to {w0 : World} {m : Mem} {ip it : Nat} {ts : List (Tk × Nat)} {s : PS} {Q : Value → Mem → Prop} (h : PsAt m ip it ts s) (hk : s.k < ts.length) (hl : ts.length ≤ 1000000) (hE : EndOk ts)
    (hq : ∀ m', Kept ip m m' → PsAt m' ip it ts (toF ts s).2 → Q (.string ⟨⟨(toF ts s).1⟩⟩) m') : AbC Tryz.prog w0 54 [.pointer (some ⟨ip, 0, none⟩)] m Q := by
  refine AbC_fn ok54 (by simp) ?_
  simp -implicitDefEqProofs (disch := first | assumption | (simp only [wnA]; done) | (simp only [wnA]; omega) | omega | fail) [rc54, ro54, wkA, retV, stabOk, dC, ev, fillD, pickCells, putAt, bnd, slD, List.getElem?_cons_zero, List.getElem?_cons_succ, dR.eq_20, Mem.cell, Mem.row, wmA]
  refine c_take (kd := 1) (tx := goL) h hk hl fun m1 k1 p1 => ?_
  have hk1 := takeF_k (kd := 1) (tx := goL) hE hk (by decide)
  simp -implicitDefEqProofs (disch := first | assumption | (simp only [wnA]; done) | (simp only [wnA]; omega) | omega | fail) [wkA, retV, stabOk, dC, ev, fillD, pickCells, putAt, bnd, slD, List.getElem?_cons_zero, List.getElem?_cons_succ, dR.eq_20, Mem.cell, Mem.row, wmA]
  refine c_take (kd := 1) (tx := []) p1 hk1 hl fun m2 k2 p2 => ?_
  have hq := hq m2 (k1.trans k2) p2
  unfold toF at hq
  generalize takeF ts 1 [] (takeF ts 1 goL s).2 = r at *
  obtain ⟨⟨⟨kd0, tx0, vl0⟩, at0⟩, s1⟩ := r
  simp -implicitDefEqProofs (disch := first | assumption | (simp only [wnA]; done) | (simp only [wnA]; omega) | omega | fail) [wkA, retV, stabOk, dC, ev, fillD, pickCells, putAt, bnd, slD, List.getElem?_cons_zero, List.getElem?_cons_succ, dR.eq_20, Mem.cell, Mem.row, wmA, cellP_mk]
  exact hq
end Go.Proofs.YtjlicambfepfiaaGreatDoor.Ab

set_option linter.unusedVariables false
set_option linter.unusedSimpArgs false
namespace Go.Proofs.YtjlicambfepfiaaGreatDoor.Ab
open Go Go.RowKit
set_option maxHeartbeats 4000000
set_option maxRecDepth 100000
structure Arm where
  pat : List UInt8
  to : List UInt8
def Arm.cells (a : Arm) : List Value := [.string ⟨⟨a.pat⟩⟩, .string ⟨⟨a.to⟩⟩]
theorem arl (a : Arm) : a.cells.length = 2 := rfl
def armF (ts : List (Tk × Nat)) (s : PS) : Arm × PS := (⟨(takeF ts 3 [] s).1.1.tx, (toF ts (takeF ts 3 [] s).2).1⟩, (toF ts (takeF ts 3 [] s).2).2)
def armsF : Nat → List (Tk × Nat) → PS → List Arm → List Arm × PS
  | 0, _, s, out => (out, s)
  | n + 1, ts, s, out => match s.err with
    | some e => (out, s)
    | none => if isF ts 4 [44] (armF ts s).2 = true then armsF n ts ⟨(armF ts s).2.k + 1, (armF ts s).2.err⟩ (out ++ [(armF ts s).1]) else (out ++ [(armF ts s).1], (armF ts s).2)
def armsL (ts : List (Tk × Nat)) (s : PS) : List Arm × PS := armsF ts.length ts s []
theorem armF_k {ts : List (Tk × Nat)} {s : PS} (he : EndOk ts) (hk : s.k < ts.length) : (armF ts s).2.k < ts.length := toF_k he (takeF_k he hk (by decide))
theorem takeF_ge (ts : List (Tk × Nat)) (kd : Int) (tx : List UInt8) (s : PS) : s.k ≤ (takeF ts kd tx s).2.k := by
  rw [takeF_eq]
  unfold takeR
  split
  · split
    · rw [failF_k]; exact Nat.le_refl _
    · exact Nat.le_refl _
  · show s.k ≤ (if misfit (ts.getD s.k tok0).1 kd tx = true then failF ts 2 s else s).k + 1
    split
    · rw [failF_k]; omega
    · omega
theorem armF_ge (ts : List (Tk × Nat)) (s : PS) : s.k ≤ (armF ts s).2.k :=
  Nat.le_trans (takeF_ge _ _ _ _) (Nat.le_trans (takeF_ge _ _ _ _) (takeF_ge _ _ _ _))
theorem isF_k {ts : List (Tk × Nat)} {kd : Int} {tx : List UInt8} {s : PS} (he : EndOk ts) (hk : s.k < ts.length) (h0 : kd ≠ 0) (h : isF ts kd tx s = true) : s.err = none ∧ s.k + 1 < ts.length ∧ misfit (ts.getD s.k tok0).1 kd tx = false := by
  unfold isF at h
  simp only [Bool.and_eq_true, Option.isNone_iff_eq_none, Bool.not_eq_true'] at h
  refine ⟨h.1, ?_, h.2⟩
  have hkd := misfit_kd h.2
  have : s.k ≠ ts.length - 1 := fun e => h0 (by rw [← hkd, e]; exact he)
  omega
theorem c_arms {w0 : World} {m : Mem} {ip it : Nat} {ts : List (Tk × Nat)} {s : PS} {Q : Value → Mem → Prop} (h : PsAt m ip it ts s) (hk : s.k < ts.length) (hl : ts.length ≤ 1000000) (hE : EndOk ts)
    (hq : ∀ m' ob, Kept ip m m' → PsAt m' ip it ts (armsL ts s).2 → SlO m' 49 2 ob ((armsL ts s).1.flatMap Arm.cells) (armsL ts s).1.length → (∀ i, ob = some i → m.next ≤ i) → (armsL ts s).1.length ≤ ts.length → Q (slV ob (armsL ts s).1.length 2) m') :
    AbC Tryz.prog w0 52 [.pointer (some ⟨ip, 0, none⟩)] m Q := by
  refine AbC_fn ok52 (by simp) ?_
  have hip := h.2.2.1
  have hit := h.2.2.2.1
  simp -implicitDefEqProofs (disch := first | assumption | (simp only [wnA]; done) | (simp only [wnA]; omega) | omega | fail) [rc52, ro52, wkA, retV, stabOk, dC, ev, fillD, pickCells, putAt, bnd, slD, List.getElem?_cons_zero, List.getElem?_cons_succ, dR.eq_20, Mem.cell, Mem.row, wmA]
  refine LoopW_of (fun n fr m' => ∃ s' out ob more, s'.k < ts.length ∧ (more = true → armsF n ts s' out = armsL ts s ∧ (s'.err = none → ts.length - s'.k ≤ n)) ∧ (more = false → (out, s') = armsL ts s) ∧ Kept ip m m' ∧ PsAt m' ip it ts s' ∧ SlO m' 49 2 ob (out.flatMap Arm.cells) out.length ∧ (∀ i, ob = some i → m.next ≤ i) ∧ ((more = true → out.length ≤ s'.k) ∧ out.length ≤ ts.length) ∧ fr 0 = .pointer (some ⟨ip, 0, none⟩) ∧ fr 3 = slV ob out.length 2 ∧ fr 4 = .bool more) ts.length ?_ ?_
  · exact ⟨s, [], none, true, hk, fun _ => ⟨rfl, fun _ => by omega⟩, (fun h => by cases h), Kept.refl _ _, h, ⟨rfl, rfl⟩, (fun i h => by cases h), ⟨fun _ => Nat.zero_le _, Nat.zero_le _⟩, by simp [frA_at], by simp; rfl, by simp⟩
  · rintro n fr m1 K ⟨s1, out, ob, more, hk1, hm1, hm2, k1, p1, so, hob, ⟨hol, hol2⟩, f0, f3, f4⟩ hK
    have stop : (out, s1) = armsL ts s → Q (slV ob out.length 2) m1 := fun he => by
      have hq := hq m1 ob k1
      rw [← he] at hq
      exact hq p1 so hob hol2
    obtain ⟨k, err⟩ := s1
    have hk1 : k < ts.length := hk1
    cases more with
    | false =>
      have hq := stop (hm2 rfl)
      simp -implicitDefEqProofs (disch := first | assumption | (simp only [wnA]; done) | (simp only [wnA]; omega) | omega | fail) [wkA, retV, stabOk, dC, ev, fillD, pickCells, putAt, bnd, slD, List.getElem?_cons_zero, List.getElem?_cons_succ, dR.eq_20, Mem.cell, Mem.row, wmA, rc52_1, rc52_2, f3, f4]
      exact hq
    | true =>
      obtain ⟨ha, hn⟩ := hm1 rfl
      cases err with
      | some e =>
        have gp : m1.get ip = .own [.slice (some ⟨it, 0, none⟩) ts.length 4, .int .i64 (k : Int), faultV e.1 e.2] 84 := p1.1
        have hq := stop (by rw [← ha]; cases n <;> rfl)
        simp -implicitDefEqProofs (disch := first | assumption | (simp only [wnA]; done) | (simp only [wnA]; omega) | omega | fail) [wkA, retV, stabOk, dC, ev, fillD, pickCells, putAt, bnd, slD, List.getElem?_cons_zero, List.getElem?_cons_succ, dR.eq_20, Mem.cell, Mem.row, wmA, rc52_1, rc52_2, f0, f3, f4, gp, faultV]
        exact hq
      | none =>
        have gp : m1.get ip = .own [.slice (some ⟨it, 0, none⟩) ts.length 4, .int .i64 (k : Int), .nilIface] 84 := p1.1
        have hn : ts.length - k ≤ n := hn rfl
        obtain ⟨n, rfl⟩ : ∃ n', n = n' + 1 := ⟨n - 1, by omega⟩
        simp -implicitDefEqProofs (disch := first | assumption | (simp only [wnA]; done) | (simp only [wnA]; omega) | omega | fail) [wkA, retV, stabOk, dC, ev, fillD, pickCells, putAt, bnd, slD, List.getElem?_cons_zero, List.getElem?_cons_succ, dR.eq_20, Mem.cell, Mem.row, wmA, rc52_1, rc52_0, f0, f4, gp]
        refine c_take (kd := 3) (tx := []) p1 hk1 hl fun m2 k2 p2 => ?_
        have hk2 := takeF_k (kd := 3) (tx := []) (s := ⟨k, none⟩) hE hk1 (by decide)
        have hae : armsF (n + 1) ts ⟨k, none⟩ out = (if isF ts 4 [44] (armF ts ⟨k, none⟩).2 = true then armsF n ts ⟨(armF ts ⟨k, none⟩).2.k + 1, (armF ts ⟨k, none⟩).2.err⟩ (out ++ [(armF ts ⟨k, none⟩).1]) else (out ++ [(armF ts ⟨k, none⟩).1], (armF ts ⟨k, none⟩).2)) := rfl
        have hak := armF_k (s := ⟨k, none⟩) hE hk1
        have hag := armF_ge ts ⟨k, none⟩
        rw [hae] at ha
        clear hae
        unfold armF at ha hak hag
        generalize takeF ts 3 [] ⟨k, none⟩ = r at *
        obtain ⟨⟨⟨kd0, tx0, vl0⟩, at0⟩, s2⟩ := r
        simp only at p2 hk2 ha hak hag
        simp -implicitDefEqProofs (disch := first | assumption | (simp only [wnA]; done) | (simp only [wnA]; omega) | omega | fail) [wkA, retV, stabOk, dC, ev, fillD, pickCells, putAt, bnd, slD, List.getElem?_cons_zero, List.getElem?_cons_succ, dR.eq_20, Mem.cell, Mem.row, wmA, cellP_mk]
        obtain ⟨M, hM⟩ : ∃ M, (m2.push (.own [.string ⟨#[]⟩, .string ⟨#[]⟩] 49)).set m2.next (.own (putAt [.string ⟨#[]⟩, .string ⟨#[]⟩] 0 [.string ⟨⟨tx0⟩⟩, .string ⟨#[]⟩]) 49) = M := ⟨_, rfl⟩
        refine SK_stv (i := m2.next) (o := 0) (vs := [.string ⟨⟨tx0⟩⟩, .string ⟨#[]⟩]) (cs := [.string ⟨#[]⟩, .string ⟨#[]⟩]) (e := 49) (by simp [wkA, retV, stabOk, dC, ev, fillD, pickCells, putAt, bnd, slD, List.getElem?_cons_zero, List.getElem?_cons_succ, dR.eq_20]) (by simp -implicitDefEqProofs (disch := first | assumption | (simp only [wnA]; done) | (simp only [wnA]; omega) | omega | fail) [wkA, retV, stabOk, dC, ev, fillD, pickCells, putAt, bnd, slD, List.getElem?_cons_zero, List.getElem?_cons_succ, dR.eq_20, Mem.cell, Mem.row, wmA]) (by simp [wkA, retV, stabOk, dC, ev, fillD, pickCells, putAt, bnd, slD, List.getElem?_cons_zero, List.getElem?_cons_succ, dR.eq_20, cellP_mk]) (by simp) rfl rfl ?_
        rw [hM]
        have oM : Old m2 M := by subst hM; exact ((Old.refl m2).push _).set (Nat.le_refl _) _
        have gM : M.get m2.next = .own [.string ⟨⟨tx0⟩⟩, .string ⟨#[]⟩] 49 := by subst hM; rw [Mem.set_same]; rfl
        have nM : m2.next < M.next := by subst hM; simp
        clear hM
        simp -implicitDefEqProofs (disch := first | assumption | (simp only [wnA]; done) | (simp only [wnA]; omega) | omega | fail) [wkA, retV, stabOk, dC, ev, fillD, pickCells, putAt, bnd, slD, List.getElem?_cons_zero, List.getElem?_cons_succ, dR.eq_20, Mem.cell, Mem.row, wmA, f0]
        refine c_to (p2.old oM) hk2 hl hE fun m3 k3 p3 => ?_
        have hn2 : m2.next ≠ ip := by have := k1.1; have := k2.1; omega
        have g3 := (k3.2 m2.next nM hn2).trans gM
        have n3 : m2.next < m3.next := Nat.lt_of_lt_of_le nM k3.1
        generalize toF ts s2 = u at *
        obtain ⟨txt, s3⟩ := u
        simp only at p3 ha hak hag
        simp -implicitDefEqProofs (disch := first | assumption | (simp only [wnA]; done) | (simp only [wnA]; omega) | omega | fail) [wkA, retV, stabOk, dC, ev, fillD, pickCells, putAt, bnd, slD, List.getElem?_cons_zero, List.getElem?_cons_succ, dR.eq_20, Mem.cell, Mem.row, wmA]
        obtain ⟨M4, hM4⟩ : ∃ M, m3.set m2.next (.own (putAt [.string ⟨⟨tx0⟩⟩, .string ⟨#[]⟩] 1 [.string ⟨⟨txt⟩⟩]) 49) = M := ⟨_, rfl⟩
        refine SK_stv (i := m2.next) (o := 1) (vs := [.string ⟨⟨txt⟩⟩]) (e := 49) (by simp [wkA, retV, stabOk, dC, ev, fillD, pickCells, putAt, bnd, slD, List.getElem?_cons_zero, List.getElem?_cons_succ, dR.eq_20]) g3 (by simp [wkA, retV, stabOk, dC, ev, fillD, pickCells, putAt, bnd, slD, List.getElem?_cons_zero, List.getElem?_cons_succ, dR.eq_20]) (by simp) rfl rfl ?_
        rw [hM4]
        have km0 : Kept ip m m3 := (k1.trans k2).trans (oM.kept.trans k3)
        have o4 : Kept ip m M4 ∧ M4.next = m3.next ∧ (∀ i, i ≠ m2.next → M4.get i = m3.get i) := by
          subst hM4
          refine ⟨⟨km0.1, fun i hi hn => ?_⟩, rfl, fun i hi => Mem.set_other _ _ hi⟩
          rw [Mem.set_other _ _ (by have := k1.1; have := k2.1; omega)]
          exact km0.2 i hi hn
        have g4 : M4.get m2.next = .own [.string ⟨⟨tx0⟩⟩, .string ⟨⟨txt⟩⟩] 49 := by subst hM4; rw [Mem.set_same]; rfl
        clear hM4
        simp -implicitDefEqProofs (disch := first | assumption | (simp only [wnA]; done) | (simp only [wnA]; omega) | omega | fail) [wkA, retV, stabOk, dC, ev, fillD, pickCells, putAt, bnd, slD, List.getElem?_cons_zero, List.getElem?_cons_succ, dR.eq_20, Mem.cell, Mem.row, wmA, f3, g4]
        rw [SK_bsl (cs := [.string ⟨⟨tx0⟩⟩, .string ⟨⟨txt⟩⟩]) (by simp [wkA, retV, stabOk, dC, ev, fillD, pickCells, putAt, bnd, slD, List.getElem?_cons_zero, List.getElem?_cons_succ, dR.eq_20]) (by simp)]
        obtain ⟨m5, hm5⟩ : ∃ m5, M4.push (.own [.string ⟨⟨tx0⟩⟩, .string ⟨⟨txt⟩⟩] 49) = m5 := ⟨_, rfl⟩
        have o5 : Old M4 m5 := by subst hm5; exact (Old.refl M4).push _
        have g5 : m5.get M4.next = .own [.string ⟨⟨tx0⟩⟩, .string ⟨⟨txt⟩⟩] 49 := by subst hm5; rw [Mem.push_same]
        rw [hm5]
        clear hm5
        have p5 : PsAt m5 ip it ts s3 := by
          have p4 : PsAt M4 ip it ts s3 := ⟨by rw [o4.2.2 ip (fun e => hn2 e.symm)]; exact p3.1, by rw [o4.2.2 it (by have := k1.1; have := k2.1; omega)]; exact p3.2.1, by rw [o4.2.1]; exact p3.2.2.1, by rw [o4.2.1]; exact p3.2.2.2.1, p3.2.2.2.2⟩
          exact p4.old o5
        have K5 : Kept ip m m5 := o4.1.trans o5.kept
        have hlt : ∀ j, ob = some j → j < m1.next ∧ j ≠ ip := fun j hj => ⟨by subst hj; exact so.lt, by have := hob j hj; omega⟩
        have s5 : SlO m5 49 2 ob (out.flatMap Arm.cells) out.length := so.keep (by have := k2.1; have := oM.1; have := k3.1; have := o4.2.1; have := o5.1; omega) fun j hj => by
          obtain ⟨h1, h2⟩ := hlt j hj
          have e1 := k2.1
          have e2 := oM.1
          have e3 := k3.1
          have e4 := o4.2.1
          rw [o5.2 j (by omega), o4.2.2 j (by omega), k3.2 j (by omega) h2, oM.2 j (by omega), k2.2 j h1 h2]
        simp -implicitDefEqProofs (disch := first | assumption | (simp only [wnA]; done) | (simp only [wnA]; omega) | omega | fail) [wkA, retV, stabOk, dC, ev, fillD, pickCells, putAt, bnd, slD, List.getElem?_cons_zero, List.getElem?_cons_succ, dR.eq_20, Mem.cell, Mem.row, wmA, f3]
        refine SK_appP (base := m.set ip (m5.get ip)) (ob := ob) (n := out.length) (k := 1) (cs := out.flatMap Arm.cells) (ys := [.string ⟨⟨tx0⟩⟩, .string ⟨⟨txt⟩⟩]) (kept_old K5) s5 hob (by simp [wkA, retV, stabOk, dC, ev, fillD, pickCells, putAt, bnd, slD, List.getElem?_cons_zero, List.getElem?_cons_succ, dR.eq_20]) (by simp -implicitDefEqProofs (disch := first | assumption | (simp only [wnA]; done) | (simp only [wnA]; omega) | omega | fail) [wkA, retV, stabOk, dC, ev, fillD, pickCells, putAt, bnd, slD, List.getElem?_cons_zero, List.getElem?_cons_succ, dR.eq_20, elemsV, Mem.cell, Mem.row, wmA, g5]) (by simp [wkA, retV, stabOk, dC, ev, fillD, pickCells, putAt, bnd, slD, List.getElem?_cons_zero, List.getElem?_cons_succ, dR.eq_20]) (by omega) rfl (by omega) (by simp only [maxLen]; omega) rfl fun ob' m6 o6 s6 hob6 => ?_
        have K6 : Kept ip m m6 := ⟨o6.1, fun i hi hn => by rw [o6.2 i hi, Mem.set_other _ _ hn]⟩
        have gi : m6.get ip = m5.get ip := by rw [o6.2 ip hip, Mem.set_same]
        have p6 : PsAt m6 ip it ts s3 := by
          obtain ⟨x1, x2, x3, x4, x5⟩ := p5
          have : m.next ≤ m6.next := o6.1
          exact ⟨by rw [gi]; exact x1, by rw [K6.2 it hit (fun e => x5 e.symm), h.2.1], by omega, by omega, x5⟩
        simp -implicitDefEqProofs (disch := first | assumption | (simp only [wnA]; done) | (simp only [wnA]; omega) | omega | fail) [wkA, retV, stabOk, dC, ev, fillD, pickCells, putAt, bnd, slD, List.getElem?_cons_zero, List.getElem?_cons_succ, dR.eq_20, Mem.cell, Mem.row, wmA, f0]
        refine c_is (kd := 4) (tx := [44]) p6 hak hl fun m7 o7 => ?_
        have p7 := p6.old o7
        have K7 := K6.trans o7.kept
        have s7 : SlO m7 49 2 ob' ((out ++ [(⟨tx0, txt⟩ : Arm)]).flatMap Arm.cells) (out.length + 1) := by
          have : (out ++ [(⟨tx0, txt⟩ : Arm)]).flatMap Arm.cells = out.flatMap Arm.cells ++ [.string ⟨⟨tx0⟩⟩, .string ⟨⟨txt⟩⟩] := by simp [Arm.cells]
          rw [this]
          exact s6.keep o7.1 fun j hj => by subst hj; exact o7.2 j s6.lt
        cases hi : isF ts 4 [44] s3 with
        | false =>
          rw [hi] at ha
          simp -implicitDefEqProofs (disch := first | assumption | (simp only [wnA]; done) | (simp only [wnA]; omega) | omega | fail) [wkA, retV, stabOk, dC, ev, fillD, pickCells, putAt, bnd, slD, List.getElem?_cons_zero, List.getElem?_cons_succ, dR.eq_20, Mem.cell, Mem.row, wmA]
          refine hK n _ m7 (by omega) ⟨s3, out ++ [⟨tx0, txt⟩], ob', false, hak, (fun h => by cases h), fun _ => ha, K7, p7, by simpa using s7, hob6, ⟨(fun h => by cases h), ?_⟩, by simp [f0], by simp, by simp⟩
          have : out.length ≤ k := hol rfl
          simp; omega
        | true =>
          rw [hi, if_pos rfl] at ha
          obtain ⟨e3, hk3, -⟩ := isF_k hE hak (by decide) hi
          obtain ⟨k3', err3⟩ := s3
          have e3 : err3 = none := e3
          subst e3
          have hk3 : k3' + 1 < ts.length := hk3
          have hag : k ≤ k3' := hag
          have gp7 : m7.get ip = .own [.slice (some ⟨it, 0, none⟩) ts.length 4, .int .i64 (k3' : Int), .nilIface] 84 := p7.1
          have w1 : IntKind.i64.wrap ((k3' : Int) + 1) = ((k3' + 1 : Nat) : Int) := by rw [w64 (by omega)]; omega
          simp -implicitDefEqProofs (disch := first | assumption | (simp only [wnA]; done) | (simp only [wnA]; omega) | omega | fail) [wkA, retV, stabOk, dC, ev, fillD, pickCells, putAt, bnd, slD, List.getElem?_cons_zero, List.getElem?_cons_succ, dR.eq_20, Mem.cell, Mem.row, wmA, f0, gp7, w1]
          obtain ⟨M8, hM8⟩ : ∃ M, m7.set ip (.own (putAt [.slice (some ⟨it, 0, none⟩) ts.length 4, .int .i64 (k3' : Int), .nilIface] 1 [.int .i64 ((k3' + 1 : Nat) : Int)]) 84) = M := ⟨_, rfl⟩
          refine SK_stv (i := ip) (o := 1) (vs := [.int .i64 ((k3' + 1 : Nat) : Int)]) (e := 84) (by simp [wkA, retV, stabOk, dC, ev, fillD, pickCells, putAt, bnd, slD, List.getElem?_cons_zero, List.getElem?_cons_succ, dR.eq_20]) gp7 (by simp [wkA, retV, stabOk, dC, ev, fillD, pickCells, putAt, bnd, slD, List.getElem?_cons_zero, List.getElem?_cons_succ, dR.eq_20]) (by simp) rfl rfl ?_
          rw [hM8]
          have K8 : Kept ip m7 M8 := by subst hM8; exact ⟨Nat.le_refl _, fun i hi hn => Mem.set_other _ _ hn⟩
          have p8 : PsAt M8 ip it ts ⟨k3' + 1, none⟩ := by
            subst hM8
            exact ⟨by rw [Mem.set_same]; rfl, by rw [Mem.set_other _ _ (fun e => p7.2.2.2.2 e.symm)]; exact p7.2.1, p7.2.2.1, p7.2.2.2.1, p7.2.2.2.2⟩
          have s8 := s7.keep K8.1 fun j hj => K8.2 j (by subst hj; exact s7.lt) (by have := hob6 j hj; have : m.next ≤ j := this; omega)
          simp -implicitDefEqProofs (disch := first | assumption | (simp only [wnA]; done) | (simp only [wnA]; omega) | omega | fail) [wkA, retV, stabOk, dC, ev, fillD, pickCells, putAt, bnd, slD, List.getElem?_cons_zero, List.getElem?_cons_succ, dR.eq_20, Mem.cell, Mem.row, wmA]
          refine hK n _ M8 (by omega) ⟨⟨k3' + 1, none⟩, out ++ [⟨tx0, txt⟩], ob', true, hk3, fun _ => ⟨ha, fun _ => by show ts.length - (k3' + 1) ≤ n; omega⟩, (fun h => by cases h), K7.trans K8, p8, by simpa using s8, hob6, ⟨fun _ => ?_, ?_⟩, by simp [f0], by simp, by simp⟩
          · have : out.length ≤ k := hol rfl
            simp; omega
          · have : out.length ≤ k := hol rfl
            simp; omega
end Go.Proofs.YtjlicambfepfiaaGreatDoor.Ab

set_option linter.unusedVariables false
set_option linter.unusedSimpArgs false
namespace Go.Proofs.YtjlicambfepfiaaGreatDoor.Ab
open Go Go.RowKit
set_option maxHeartbeats 4000000
set_option maxRecDepth 100000
structure DS where
  lb : List UInt8
  kd : Int
  tx : List UInt8
  arms : List Arm
  n : Int
  to : List UInt8
  pl : Int
def dsC (d : DS) (av : Value) : List Value := [.string ⟨⟨d.lb⟩⟩, .int .i64 d.kd, .string ⟨⟨d.tx⟩⟩, av, .int .i64 d.n, .string ⟨⟨d.to⟩⟩, .int .i64 d.pl]
def ds0 : DS := ⟨[], 0, [], [], 0, [], 0⟩
def sendL : List UInt8 := [115, 101, 110, 100]
def expectL : List UInt8 := [101, 120, 112, 101, 99, 116]
def tryL : List UInt8 := [116, 114, 121]
def doneL : List UInt8 := [100, 111, 110, 101]
def failL : List UInt8 := [102, 97, 105, 108]
def afterL : List UInt8 := [97, 102, 116, 101, 114]
def wordsL : List (List UInt8) := [sendL, expectL, goL, tryL, doneL, failL]
def kindOf (t : List UInt8) : Nat := wordsL.findIdx (· == t)
def headF (ts : List (Tk × Nat)) (s : PS) : List UInt8 × (Tk × Nat) × PS :=
  let r := takeF ts 1 [] s
  if isF ts 4 [58] r.2 = true then (r.1.1.tx, (takeF ts 1 [] ⟨r.2.k + 1, r.2.err⟩).1, (takeF ts 1 [] ⟨r.2.k + 1, r.2.err⟩).2) else ([], r.1, r.2)
def restK (x : Nat) (ts : List (Tk × Nat)) (d : DS) (t : Tk × Nat) (s : PS) : DS × PS :=
  match x with
  | 0 => ({ d with kd := 0, tx := (takeF ts 3 [] s).1.1.tx }, (takeF ts 3 [] s).2)
  | 1 =>
    let a := armsL ts s
    let n := numF 99 ts (takeF ts 1 afterL a.2).2
    ({ d with kd := 1, arms := a.1, n := n.1, to := (toF ts n.2).1 }, (toF ts n.2).2)
  | 2 => ({ d with kd := 2, to := (takeF ts 1 [] s).1.1.tx }, (takeF ts 1 [] s).2)
  | 3 =>
    let n := numF 9 ts s
    ({ d with kd := 3, n := n.1, to := (toF ts n.2).1 }, (toF ts n.2).2)
  | 4 => ({ d with kd := 4 }, s)
  | 5 => ({ d with kd := 5 }, s)
  | k => ({ d with kd := (k : Int) }, match s.err with
    | some e => s
    | none => ⟨s.k, some (3, t.2)⟩)
def restF (ts : List (Tk × Nat)) (d : DS) (t : Tk × Nat) (s : PS) : DS × PS := restK (kindOf t.1.tx) ts d t s
def stepF (ts : List (Tk × Nat)) (s : PS) : DS × PS :=
  let h := headF ts s
  let b := restF ts { ds0 with lb := h.1, pl := (ts.getD s.k tok0).2 } h.2.1 h.2.2
  (b.1, (takeF ts 4 [59] b.2).2)
theorem kindOf_le (t : List UInt8) : kindOf t ≤ 6 := List.findIdx_le_length
theorem c_words {w0 : World} {m : Mem} {Q : Value → Mem → Prop} (hq : Q (.slice (some ⟨m.next, 0, none⟩) 6 1) (m.push (.own (wordsL.map fun w => .string ⟨⟨w⟩⟩) 9))) : AbC Tryz.prog w0 51 [] m Q := by
  refine AbC_fn ok51 (by simp) ?_
  simp -implicitDefEqProofs (disch := first | assumption | (simp only [wnA]; done) | (simp only [wnA]; omega) | omega | fail) [rc51, ro51, wkA, retV, stabOk, dC, ev, fillD, pickCells, putAt, bnd, slD, List.getElem?_cons_zero, List.getElem?_cons_succ, dR.eq_20, Mem.cell, Mem.row, wmA]
  rw [SK_bsl (cs := wordsL.map fun w => .string ⟨⟨w⟩⟩) (by simp [wkA, retV, stabOk, dC, ev, fillD, pickCells, putAt, bnd, slD, List.getElem?_cons_zero, List.getElem?_cons_succ, dR.eq_20, wordsL, sendL, expectL, goL, tryL, doneL, failL]) (by simp [wordsL])]
  simp -implicitDefEqProofs (disch := first | assumption | (simp only [wnA]; done) | (simp only [wnA]; omega) | omega | fail) [wkA, retV, stabOk, dC, ev, fillD, pickCells, putAt, bnd, slD, List.getElem?_cons_zero, List.getElem?_cons_succ, dR.eq_20, Mem.cell, Mem.row, wmA]
  exact hq
theorem w_word {w0 : World} {Q : AQ} {fr : Fr} {m : Mem} {i4 at0 : Nat} {kd0 vl0 : Int} {tx : List UInt8} (g4 : m.get i4 = .own [.int .i64 kd0, .string ⟨⟨tx⟩⟩, .int .i64 vl0, .int .i64 (at0 : Int)] 87) (h4 : i4 < m.next) (e4 : fr 4 = .pointer (some ⟨i4, 0, none⟩)) (e5 : fr 5 = .int .i64 0)
    (hq : ∀ fr' m', Old m m' → (∀ k ∈ [0, 2, 3, 4], fr' k = fr k) → fr' 5 = .int .i64 (kindOf tx : Nat) → Q .normal fr' m') : LoopW (AbW Tryz.prog w0 rc36_1) (inBlockA 0 Q) fr m := by
  have hkl := kindOf_le tx
  refine LoopW_of (fun k ts m' => ∃ j, j + k = 6 ∧ Old m m' ∧ (∀ k ∈ [0, 2, 3, 4], ts k = fr k) ∧ ts 5 = .int .i64 (j : Nat) ∧ j ≤ kindOf tx) 6 ?_ ?_
  · exact ⟨0, rfl, Old.refl m, fun k _ => rfl, e5, Nat.zero_le _⟩
  · rintro k ts m1 K ⟨j, hj, o1, sm, t5, hjk⟩ hK
    have t4 := (sm 4 (by simp)).trans e4
    have g4' := (o1.2 i4 h4).trans g4
    simp -implicitDefEqProofs (disch := first | assumption | (simp only [wnA]; done) | (simp only [wnA]; omega) | omega | fail) [rc36_1, wkA, retV, stabOk, dC, ev, fillD, pickCells, putAt, bnd, slD, List.getElem?_cons_zero, List.getElem?_cons_succ, dR.eq_20, Mem.cell, Mem.row, wmA, t4, t5]
    refine c_words ?_
    have fin : ∀ (ts' : Fr) (m' : Mem), Old m m' → (∀ k ∈ [0, 2, 3, 4], ts' k = ts k) → ts' 5 = .int .i64 (kindOf tx : Nat) → Q .normal ts' m' := fun ts' m' o hs h5 => hq ts' m' o (fun q hq => (hs q hq).trans (sm q hq)) h5
    by_cases h6 : j < 6
    · have i6 : (j : Int) < 6 := by omega
      have hjw : IntKind.i64.wrap ((j : Int) + 1) = ((j + 1 : Nat) : Int) := by rw [w64 (by omega)]; omega
      obtain ⟨m2, hm2⟩ : ∃ m2, m1.push (.own (wordsL.map fun w => .string ⟨⟨w⟩⟩) 9) = m2 := ⟨_, rfl⟩
      have o2 : Old m1 m2 := by subst hm2; exact (Old.refl m1).push _
      have g42 := (o2.2 i4 (by have := o1.1; omega)).trans g4'
      rw [hm2]
      simp -implicitDefEqProofs (disch := first | assumption | (simp only [wnA]; done) | (simp only [wnA]; omega) | omega | fail) [wkA, retV, stabOk, dC, ev, fillD, pickCells, putAt, bnd, slD, List.getElem?_cons_zero, List.getElem?_cons_succ, dR.eq_20, Mem.cell, Mem.row, wmA, i6, t4, t5, g42]
      refine c_words ?_
      obtain ⟨m3, hm3⟩ : ∃ m3, m2.push (.own (wordsL.map fun w => .string ⟨⟨w⟩⟩) 9) = m3 := ⟨_, rfl⟩
      have o3 : Old m2 m3 := by subst hm3; exact (Old.refl m2).push _
      have g43 := (o3.2 i4 (by have := o1.1; have := o2.1; omega)).trans g42
      have gw : m3.get m2.next = .own (wordsL.map fun w => .string ⟨⟨w⟩⟩) 9 := by subst hm3; rw [Mem.push_same]
      rw [hm3]
      have hix : sidx 1 (.slice (some ⟨m2.next, 0, none⟩) 6 1) (.int .i64 (j : Int)) = some (.pointer (some ⟨m2.next, 0 + j * 1, none⟩)) := sidx_at h6
      simp only [Nat.zero_add, Nat.mul_one] at hix
      have hwl : j < wordsL.length := h6
      have hwj : (wordsL.map fun w => (.string ⟨⟨w⟩⟩ : Value))[j]? = some (.string ⟨⟨wordsL[j]⟩⟩) := by simp [List.getElem?_map, List.getElem?_eq_getElem hwl]
      have hfi : kindOf tx = j ↔ (wordsL[j] == tx) = true := by
        constructor
        · intro h
          have hw : List.findIdx (· == tx) wordsL < wordsL.length := by show kindOf tx < 6; omega
          have := List.findIdx_getElem (w := hw)
          have e : List.findIdx (· == tx) wordsL = j := h
          simpa [e] using this
        · intro h
          rcases Nat.lt_or_ge j (kindOf tx) with hlt | hge
          · have := List.not_of_lt_findIdx (p := (· == tx)) (xs := wordsL) (i := j) hlt
            rw [h] at this
            cases this
          · omega
      obtain ⟨W, hW⟩ : ∃ W, wordsL[j] = W := ⟨_, rfl⟩
      rw [hW] at hwj hfi
      generalize (wordsL.map fun w => (.string ⟨⟨w⟩⟩ : Value)) = ws at *
      simp -implicitDefEqProofs (disch := first | assumption | (simp only [wnA]; done) | (simp only [wnA]; omega) | omega | fail) [wkA, retV, stabOk, dC, ev, fillD, pickCells, putAt, bnd, slD, List.getElem?_cons_zero, List.getElem?_cons_succ, dR.eq_20, Mem.cell, Mem.row, wmA, hix, gw, hwj, getL hwj, g43]
      have oo := (o1.trans o2).trans o3
      by_cases hw : W = tx
      · have hk : kindOf tx = j := hfi.2 (by simpa using hw)
        simp -implicitDefEqProofs (disch := first | assumption | (simp only [wnA]; done) | (simp only [wnA]; omega) | omega | fail) [wkA, retV, stabOk, dC, ev, fillD, pickCells, putAt, bnd, slD, List.getElem?_cons_zero, List.getElem?_cons_succ, dR.eq_20, Mem.cell, Mem.row, wmA, hw]
        refine fin _ _ oo (fun q hq => ?_) (by simp [t5, hk])
        simp only [List.mem_cons, List.not_mem_nil, or_false] at hq
        rcases hq with rfl | rfl | rfl | rfl <;> simp
      · have hw2 : (W == tx) = false := by simpa using hw
        have hk : kindOf tx ≠ j := fun e => by rw [hfi.1 e] at hw2; cases hw2
        simp -implicitDefEqProofs (disch := first | assumption | (simp only [wnA]; done) | (simp only [wnA]; omega) | omega | fail) [wkA, retV, stabOk, dC, ev, fillD, pickCells, putAt, bnd, slD, List.getElem?_cons_zero, List.getElem?_cons_succ, dR.eq_20, Mem.cell, Mem.row, wmA, hw, hw2, bne, rc36_0, t5]
        refine hK (k - 1) _ _ (by omega) ⟨j + 1, by omega, oo, fun q hq => ?_, by simp [hjw], by omega⟩
        have := sm q hq
        simp only [List.mem_cons, List.not_mem_nil, or_false] at hq
        rcases hq with rfl | rfl | rfl | rfl <;> simp [this]
    · have i6 : ¬ (j : Int) < 6 := by omega
      have hk : kindOf tx = j := by omega
      simp -implicitDefEqProofs (disch := first | assumption | (simp only [wnA]; done) | (simp only [wnA]; omega) | omega | fail) [wkA, retV, stabOk, dC, ev, fillD, pickCells, putAt, bnd, slD, List.getElem?_cons_zero, List.getElem?_cons_succ, dR.eq_20, Mem.cell, Mem.row, wmA, i6]
      refine fin _ _ (o1.push _) (fun q hq => ?_) (by simp [t5, hk])
      simp only [List.mem_cons, List.not_mem_nil, or_false] at hq
      rcases hq with rfl | rfl | rfl | rfl <;> simp
end Go.Proofs.YtjlicambfepfiaaGreatDoor.Ab
