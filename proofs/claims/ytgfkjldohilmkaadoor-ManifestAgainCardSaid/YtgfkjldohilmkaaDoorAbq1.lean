/- A text in quotes: what the program makes of a text. -/
import Derived.Test.YtgfkjldohilmkaaDoorAbz
import Derived.Test.YtgfkjldohilmkaaDoorAbb1
set_option linter.unusedVariables false
set_option linter.unusedSimpArgs false
namespace Go.Proofs.YtgfkjldohilmkaaDoor.Ab
open Go Go.RowKit
set_option maxHeartbeats 4000000
set_option maxRecDepth 100000

def escC (c : UInt8) : Option (List UInt8) :=
  if c.toNat = 13 then some [92, 114] else if c.toNat = 10 then some [92, 110] else if c.toNat < 32 ∨ 126 < c.toNat then none else if c.toNat = 34 ∨ c.toNat = 92 then some [92, c] else some [c]
def escL : List UInt8 → Option (List UInt8)
  | [] => some []
  | c :: l => match escC c, escL l with
    | some a, some b => some (a ++ b)
    | _, _ => none
theorem escL_snoc : ∀ {l e : List UInt8} {c : UInt8} {a : List UInt8}, escL l = some e → escC c = some a → escL (l ++ [c]) = some (e ++ a)
  | [], e, c, a, h, ha => by simp [escL] at h; subst h; simp [escL, ha]
  | x :: l, e, c, a, h, ha => by
    simp only [escL] at h
    split at h
    · rename_i p q hp hq
      simp at h; subst h
      simp [escL, hp, escL_snoc hq ha]
    · cases h
theorem escL_none : ∀ {l r : List UInt8} {c : UInt8}, escC c = none → escL (l ++ c :: r) = none
  | [], r, c, h => by simp [escL, h]
  | x :: l, r, c, h => by simp only [List.cons_append, escL, escL_none h]; split <;> first | rfl | (rename_i h1 h2; cases h2)
theorem escC_len {c : UInt8} {a : List UInt8} (h : escC c = some a) : 1 ≤ a.length ∧ a.length ≤ 2 := by
  unfold escC at h
  split at h
  · simp at h; subst h; simp
  · split at h
    · simp at h; subst h; simp
    · split at h
      · cases h
      · split at h <;> (simp at h; subst h; simp)
theorem escL_len : ∀ {l e : List UInt8}, escL l = some e → e.length ≤ 2 * l.length
  | [], e, h => by simp [escL] at h; subst h; simp
  | x :: l, e, h => by
    simp only [escL] at h
    split at h
    · rename_i p q hp hq
      simp at h; subst h
      have := (escC_len hp).2
      have := escL_len hq
      simp; omega
    · cases h
/-- What Quote yields. -/
def quoteV (l : List UInt8) : Value := match escL l with
  | some e => .tuple ⟨[.string ⟨⟨34 :: (e ++ [34])⟩⟩, .bool true]⟩
  | none => .tuple ⟨[.string ⟨⟨[]⟩⟩, .bool false]⟩
theorem take_succ' {l : List UInt8} {j : Nat} {c : UInt8} (h : l[j]? = some c) : l.take (j + 1) = l.take j ++ [c] := by
  rw [List.take_add_one, h]; rfl
theorem split_at {l : List UInt8} {j : Nat} {c : UInt8} (h : l[j]? = some c) : l = l.take j ++ c :: l.drop (j + 1) := by
  obtain ⟨hj, rfl⟩ := List.getElem?_eq_some_iff.1 h
  rw [← List.drop_eq_getElem_cons hj, List.take_append_drop]
theorem ba_get {s : ByteArray} {j : Nat} (h : j < s.size) : s[j]? = some s[j] ∧ s.data.toList[j]? = some s[j] := by
  refine ⟨getElem?_pos s j h, ?_⟩
  have hl : j < s.data.toList.length := by simpa using h
  rw [List.getElem?_eq_getElem hl]
  rfl
theorem ba_ext1 {s : ByteArray} {j : Nat} (h : j < s.size) : s.extract j (j + 1) = ⟨⟨[s[j]]⟩⟩ := by
  apply ByteArray.ext
  apply Array.ext'
  obtain ⟨_, h2⟩ := ba_get h
  simp only [ByteArray.data_extract, Array.toList_extract]
  rw [List.extract_eq_take_drop, show j + 1 - j = 1 from by omega]
  rw [split_at h2]
  simp only [List.drop_append, List.length_take]
  have hl : j < s.data.toList.length := by simpa using h
  rw [Nat.min_eq_left (by omega), Nat.sub_self]
  simp [List.drop_take]

theorem c_Quote {w0 : World} {m : Mem} {s : ByteArray} {Q : Value → Mem → Prop} (hl : s.size ≤ 1099511627776) (hq : ∀ m', Old m m' → Q (quoteV s.data.toList) m') :
    AbC Tryd.prog w0 23 [.string s] m Q := by
  refine AbC_fn ok23 (by simp) ?_
  simp -implicitDefEqProofs (disch := first | assumption | (simp only [wnA]; done) | (simp only [wnA]; omega) | omega | fail) [rc23, ro23, wkA, retV, stabOk, dC, ev, fillD, pickCells, putAt, bnd, slD, List.getElem?_cons_zero, List.getElem?_cons_succ, dR.eq_20, Mem.cell, Mem.row, wmA]
  refine c_WriteByte (b := 34) (Bld.new (Old.refl m)) (by simp) fun m1 h1 => ?_
  simp -implicitDefEqProofs (disch := first | assumption | (simp only [wnA]; done) | (simp only [wnA]; omega) | omega | fail) [wkA, retV, stabOk, dC, ev, fillD, pickCells, putAt, bnd, slD, List.getElem?_cons_zero, List.getElem?_cons_succ, dR.eq_20, Mem.cell, Mem.row, wmA]
  refine LoopW_of (fun k ts m' => ∃ j e, j + k = s.size ∧ ts 0 = .string s ∧ ts 9 = .int .i64 (s.size : Nat) ∧ ts 10 = .int .i64 (j : Nat) ∧ ts 4 = .pointer (some ⟨m.next, 0, none⟩) ∧ escL (s.data.toList.take j) = some e ∧ Bld m m' m.next (34 :: e)) s.size ?_ ?_
  · exact ⟨0, [], by omega, by simp [frA_at], by simp, by simp, by simp, by simp [escL], by simpa using h1⟩
  · rintro k ts m2 K ⟨j, e, hj, t0, t9, t10, t4, he, hb⟩ hK
    have hel := escL_len he
    have htl : (s.data.toList.take j).length ≤ j := by simp; omega
    simp -implicitDefEqProofs (disch := first | assumption | (simp only [wnA]; done) | (simp only [wnA]; omega) | omega | fail) [rc23_1, wkA, retV, stabOk, dC, ev, fillD, pickCells, putAt, bnd, slD, List.getElem?_cons_zero, List.getElem?_cons_succ, dR.eq_20, Mem.cell, Mem.row, wmA, t9, t10]
    by_cases hjl : j < s.size
    · obtain ⟨g1, g2⟩ := ba_get hjl
      have ge := ba_ext1 hjl
      have fin : ∀ (a : List UInt8) (ts' : Fr) (m' : Mem), escC s[j] = some a → Bld m m' m.next (34 :: e ++ a) → ts' 0 = ts 0 → ts' 9 = ts 9 → ts' 4 = ts 4 → ts' 10 = .int .i64 ((j + 1 : Nat) : Int) → K ts' m' := fun a ts' m' ha hb' r0 r9 r4 r10 =>
        hK (k - 1) ts' m' (by omega) ⟨j + 1, e ++ a, by omega, by rw [r0, t0], by rw [r9, t9], r10, by rw [r4, t4], by rw [take_succ' g2]; exact escL_snoc he ha, by simpa using hb'⟩
      have bad : escC s[j] = none → ∀ m', Old m m' → Q (.tuple ⟨[.string ⟨⟨[]⟩⟩, .bool false]⟩) m' := fun hn m' ho => by
        have := hq m' ho
        rw [split_at g2] at this
        simpa [quoteV, escL_none hn] using this
      simp -implicitDefEqProofs (disch := first | assumption | (simp only [wnA]; done) | (simp only [wnA]; omega) | omega | fail) [hjl, rc23_0, wkA, retV, stabOk, dC, ev, fillD, pickCells, putAt, bnd, slD, List.getElem?_cons_zero, List.getElem?_cons_succ, dR.eq_20, Mem.cell, Mem.row, wmA, t0, t10, g1]
      have cls : (s[j]).toNat = 13 ∨ (s[j]).toNat = 10 ∨ ((s[j]).toNat < 32 ∧ (s[j]).toNat ≠ 13 ∧ (s[j]).toNat ≠ 10) ∨ (s[j]).toNat = 34 ∨ (s[j]).toNat = 92 ∨ (32 ≤ (s[j]).toNat ∧ (s[j]).toNat ≤ 126 ∧ (s[j]).toNat ≠ 34 ∧ (s[j]).toNat ≠ 92) ∨ 126 < (s[j]).toNat := by omega
      rcases cls with h | h | h | h | h | h | h
      · simp -implicitDefEqProofs (disch := first | assumption | (simp only [wnA]; done) | (simp only [wnA]; omega) | omega | fail) [beqT, wkA, retV, stabOk, dC, ev, fillD, pickCells, putAt, bnd, slD, List.getElem?_cons_zero, List.getElem?_cons_succ, dR.eq_20, Mem.cell, Mem.row, wmA, t4]
        refine c_WriteString hb (by show (34 :: e).length + 2 ≤ _; simp; omega) fun m3 h3 => ?_
        simp -implicitDefEqProofs (disch := first | assumption | (simp only [wnA]; done) | (simp only [wnA]; omega) | omega | fail) [wkA, retV, stabOk, dC, ev, fillD, pickCells, putAt, bnd, slD, List.getElem?_cons_zero, List.getElem?_cons_succ, dR.eq_20, Mem.cell, Mem.row, wmA, t10, w64]
        exact fin [92, 114] _ _ (by simp [escC, h]) (by simpa using h3) (by simp) (by simp) (by simp) (by simp)
      · simp -implicitDefEqProofs (disch := first | assumption | (simp only [wnA]; done) | (simp only [wnA]; omega) | omega | fail) [beqT, beqF, wkA, retV, stabOk, dC, ev, fillD, pickCells, putAt, bnd, slD, List.getElem?_cons_zero, List.getElem?_cons_succ, dR.eq_20, Mem.cell, Mem.row, wmA, t4]
        refine c_WriteString hb (by show (34 :: e).length + 2 ≤ _; simp; omega) fun m3 h3 => ?_
        simp -implicitDefEqProofs (disch := first | assumption | (simp only [wnA]; done) | (simp only [wnA]; omega) | omega | fail) [wkA, retV, stabOk, dC, ev, fillD, pickCells, putAt, bnd, slD, List.getElem?_cons_zero, List.getElem?_cons_succ, dR.eq_20, Mem.cell, Mem.row, wmA, t10, w64]
        exact fin [92, 110] _ _ (by simp [escC, h]) (by simpa using h3) (by simp) (by simp) (by simp) (by simp)
      · simp -implicitDefEqProofs (disch := first | assumption | (simp only [wnA]; done) | (simp only [wnA]; omega) | omega | fail) [beqT, beqF, ltT, ltF, gtT, gtF, wkA, retV, stabOk, dC, ev, fillD, pickCells, putAt, bnd, slD, List.getElem?_cons_zero, List.getElem?_cons_succ, dR.eq_20, Mem.cell, Mem.row, wmA, t4]
        exact bad (by simp [escC, h]) _ hb.1
      all_goals first
        | (have hcat : (⟨#[92]⟩ : ByteArray) ++ ⟨⟨[s[j]]⟩⟩ = ⟨⟨[92, s[j]]⟩⟩ := bApp_eq [92] [s[j]]
           have hb1 : (0 : Int) ≤ (j : Int) + 1 ∧ (j : Int) + 1 ≤ s.size := by omega
           have hb2 : (j : Int) ≤ (j : Int) + 1 := by omega
           have hb3 : ((j : Int) + 1).toNat = j + 1 := by omega
           simp -implicitDefEqProofs (disch := first | assumption | (simp only [wnA]; done) | (simp only [wnA]; omega) | omega | fail) [beqT, beqF, ltT, ltF, gtT, gtF, wkA, retV, stabOk, dC, ev, fillD, pickCells, putAt, bnd, slD, List.getElem?_cons_zero, List.getElem?_cons_succ, dR.eq_20, Mem.cell, Mem.row, wmA, t0, t4, t10, w64, hb1, hb2, hb3, ge]
           rw [dBin_sadd (by show 1 + 1 ≤ _; omega), hcat]
           simp -implicitDefEqProofs (disch := first | assumption | (simp only [wnA]; done) | (simp only [wnA]; omega) | omega | fail) [wkA, retV, stabOk, dC, ev, fillD, pickCells, putAt, bnd, slD, List.getElem?_cons_zero, List.getElem?_cons_succ, dR.eq_20, Mem.cell, Mem.row, wmA, t4]
           refine c_WriteString hb (by show (34 :: e).length + 2 ≤ _; simp; omega) fun m3 h3 => ?_
           simp -implicitDefEqProofs (disch := first | assumption | (simp only [wnA]; done) | (simp only [wnA]; omega) | omega | fail) [wkA, retV, stabOk, dC, ev, fillD, pickCells, putAt, bnd, slD, List.getElem?_cons_zero, List.getElem?_cons_succ, dR.eq_20, Mem.cell, Mem.row, wmA, t10, w64]
           exact fin [92, s[j]] _ _ (by simp [escC, h]) (by simpa using h3) (by simp) (by simp) (by simp) (by simp))
        | (simp -implicitDefEqProofs (disch := first | assumption | (simp only [wnA]; done) | (simp only [wnA]; omega) | omega | fail) [beqT, beqF, ltT, ltF, gtT, gtF, wkA, retV, stabOk, dC, ev, fillD, pickCells, putAt, bnd, slD, List.getElem?_cons_zero, List.getElem?_cons_succ, dR.eq_20, Mem.cell, Mem.row, wmA, t4]
           exact bad (by unfold escC; rw [if_neg (by omega), if_neg (by omega), if_pos (by omega)]) _ hb.1)
        | (simp -implicitDefEqProofs (disch := first | assumption | (simp only [wnA]; done) | (simp only [wnA]; omega) | omega | fail) [beqT, beqF, ltT, ltF, gtT, gtF, wkA, retV, stabOk, dC, ev, fillD, pickCells, putAt, bnd, slD, List.getElem?_cons_zero, List.getElem?_cons_succ, dR.eq_20, Mem.cell, Mem.row, wmA, t4]
           refine c_WriteByte hb (by simp; omega) fun m3 h3 => ?_
           simp -implicitDefEqProofs (disch := first | assumption | (simp only [wnA]; done) | (simp only [wnA]; omega) | omega | fail) [wkA, retV, stabOk, dC, ev, fillD, pickCells, putAt, bnd, slD, List.getElem?_cons_zero, List.getElem?_cons_succ, dR.eq_20, Mem.cell, Mem.row, wmA, t10, w64]
           exact fin [s[j]] _ _ (by unfold escC; rw [if_neg (by omega), if_neg (by omega), if_neg (by omega), if_neg (by omega)]) (by simpa using h3) (by simp) (by simp) (by simp) (by simp))
    · have hjj : j = s.size := by omega
      subst hjj
      simp -implicitDefEqProofs (disch := first | assumption | (simp only [wnA]; done) | (simp only [wnA]; omega) | omega | fail) [hjl, rc23_2, wkA, retV, stabOk, dC, ev, fillD, pickCells, putAt, bnd, slD, List.getElem?_cons_zero, List.getElem?_cons_succ, dR.eq_20, Mem.cell, Mem.row, wmA, t4]
      have hfull : s.data.toList.take s.size = s.data.toList := List.take_of_length_le (by simp)
      rw [hfull] at he
      refine c_BString hb (by simp; omega) fun m3 h3 => ?_
      have hcat : (⟨⟨34 :: e⟩⟩ : ByteArray) ++ ⟨#[34]⟩ = ⟨⟨34 :: (e ++ [34])⟩⟩ := by
        have := bApp_eq (34 :: e) [34]
        simpa using this
      simp -implicitDefEqProofs (disch := first | assumption | (simp only [wnA]; done) | (simp only [wnA]; omega) | omega | fail) [wkA, retV, stabOk, dC, ev, fillD, pickCells, putAt, bnd, slD, List.getElem?_cons_zero, List.getElem?_cons_succ, dR.eq_20, Mem.cell, Mem.row, wmA]
      rw [dBin_sadd (by show (34 :: e).length + 1 ≤ _; simp; omega), hcat]
      simp -implicitDefEqProofs (disch := first | assumption | (simp only [wnA]; done) | (simp only [wnA]; omega) | omega | fail) [wkA, retV, stabOk, dC, ev, fillD, pickCells, putAt, bnd, slD, List.getElem?_cons_zero, List.getElem?_cons_succ, dR.eq_20, Mem.cell, Mem.row, wmA]
      have := hq m3 h3
      simpa [quoteV, he] using this
end Go.Proofs.YtgfkjldohilmkaaDoor.Ab
