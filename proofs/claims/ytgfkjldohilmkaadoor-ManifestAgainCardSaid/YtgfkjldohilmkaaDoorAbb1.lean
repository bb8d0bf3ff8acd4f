/- The builder of texts: what its methods do, over the abstract memory. -/
import Derived.Test.YtgfkjldohilmkaaDoorAbz
import Derived.Test.YtgfkjldohilmkaaDoorLaid
import Derived.Test.YtgfkjldohilmkaaDoorAbu1
set_option linter.unusedVariables false
set_option linter.unusedSimpArgs false
namespace Go.Proofs.YtgfkjldohilmkaaDoor.Ab
open Go Go.RowKit
set_option maxHeartbeats 4000000
set_option maxRecDepth 100000

/-- A builder in block i that holds these bytes: it and its row lie behind what was there. -/
def Bld (base m : Mem) (i : Nat) (bs : List UInt8) : Prop := Old base m ∧ base.next ≤ i ∧ i < m.next ∧ ∃ pa ob, m.get i = .own [pa, slV ob bs.length 1] 61 ∧ (pa = .pointer none ∨ pa = .pointer (some ⟨i, 0, none⟩)) ∧
  SlO m 5 1 ob (bs.map byteV) bs.length ∧ (bs = [] → ob = none) ∧ ∀ b, ob = some b → base.next ≤ b ∧ b ≠ i

theorem Bld.new {base m : Mem} (h : Old base m) : Bld base (m.push (.own [.pointer none, .slice none 0 0] 61)) m.next [] :=
  ⟨h.push _, h.1, by simp, .pointer none, none, by simp [slV], .inl rfl, ⟨rfl, rfl⟩, fun _ => rfl, fun b hb => by cases hb⟩

theorem c_copyCheck {w0 : World} {m : Mem} {i : Nat} {pa v : Value} {Q : Value → Mem → Prop} (hi : m.get i = .own [pa, v] 61) (hpa : pa = .pointer none ∨ pa = .pointer (some ⟨i, 0, none⟩))
    (hq : ∀ m', m'.next = m.next → m'.get i = .own [.pointer (some ⟨i, 0, none⟩), v] 61 → (∀ k, k ≠ i → m'.get k = m.get k) → Q (.tuple ⟨[]⟩) m') :
    AbC Tryd.prog w0 36 [.pointer (some ⟨i, 0, none⟩)] m Q := by
  refine AbC_fn ok36 (by simp) ?_
  rcases hpa with rfl | rfl
  · simp -implicitDefEqProofs (disch := first | assumption | (simp only [wnA]; done) | (simp only [wnA]; omega) | omega | fail) [rc36, ro36, wkA, retV, stabOk, dC, ev, fillD, pickCells, putAt, bnd, slD, List.getElem?_cons_zero, List.getElem?_cons_succ, dR.eq_20, Mem.cell, Mem.row, wmA, hi]
    refine x_same xis47 ?_
    simp -implicitDefEqProofs (disch := first | assumption | (simp only [wnA]; done) | (simp only [wnA]; omega) | omega | fail) [wkA, retV, stabOk, dC, ev, fillD, pickCells, putAt, bnd, slD, List.getElem?_cons_zero, List.getElem?_cons_succ, dR.eq_20, Mem.cell, Mem.row, wmA, hi]
    refine SK_st (i := i) (o := 0) (by simp [wkA, retV, stabOk, dC, ev, fillD, pickCells, putAt, bnd, slD, List.getElem?_cons_zero, List.getElem?_cons_succ, dR.eq_20]) (e := 61) hi (by simp) (by simp [wkA, retV, stabOk, dC, ev, fillD, pickCells, putAt, bnd, slD, List.getElem?_cons_zero, List.getElem?_cons_succ, dR.eq_20]) (by simp [wkA, retV, stabOk, dC, ev, fillD, pickCells, putAt, bnd, slD, List.getElem?_cons_zero, List.getElem?_cons_succ, dR.eq_20, oneC]) ?_
    simp -implicitDefEqProofs (disch := first | assumption | (simp only [wnA]; done) | (simp only [wnA]; omega) | omega | fail) [wkA, retV, stabOk, dC, ev, fillD, pickCells, putAt, bnd, slD, List.getElem?_cons_zero, List.getElem?_cons_succ, dR.eq_20, Mem.cell, Mem.row, wmA]
    exact hq _ rfl (by simp) fun k hk => Mem.set_other _ _ hk
  · simp -implicitDefEqProofs (disch := first | assumption | (simp only [wnA]; done) | (simp only [wnA]; omega) | omega | fail) [rc36, ro36, wkA, retV, stabOk, dC, ev, fillD, pickCells, putAt, bnd, slD, List.getElem?_cons_zero, List.getElem?_cons_succ, dR.eq_20, Mem.cell, Mem.row, wmA, hi]
    exact hq m rfl hi fun _ _ => rfl

/-- More bytes lie behind. -/
theorem Bld.more {base m m1 : Mem} {i : Nat} {bs cs : List UInt8} {pa : Value} {ob : Option Nat} (h : Bld base m i bs) (hn : m1.next = m.next) (hi : m1.get i = .own [.pointer (some ⟨i, 0, none⟩), slV ob bs.length 1] 61)
    (ho : ∀ k, k ≠ i → m1.get k = m.get k) (hob : ∀ b, ob = some b → base.next ≤ b ∧ b ≠ i) (hcs : cs ≠ []) :
    Bld base (((m1.kill ob).push (.own (bs.map byteV ++ cs.map byteV) 5)).set i (.own [.pointer (some ⟨i, 0, none⟩), slV (some m1.next) (bs.length + cs.length) 1] 61)) i (bs ++ cs) := by
  obtain ⟨h1, h2, h3, pa', ob', h4, h5, h6, hz, h7⟩ := h
  have hold : Old base m1 := ⟨by rw [hn]; exact h1.1, fun k hk => by rw [ho k (by omega), h1.2 k hk]⟩
  refine ⟨((hold.kill fun b hb => (hob b hb).1).push _).set h2 _, h2, by simp [Mem.kill_nxt]; omega, _, some m1.next, by simp, .inr rfl, ⟨by simp, ?_⟩, fun hb => absurd (List.append_eq_nil_iff.1 hb).2 hcs, fun b hb => by cases hb; exact ⟨by rw [hn]; exact Nat.le_trans h2 (by omega), by omega⟩⟩
  refine ⟨?_, by simp [Mem.kill_nxt]⟩
  rw [Mem.set_other _ _ (by omega)]
  simp [Mem.push_get, Mem.kill_nxt]

theorem c_WriteByte {w0 : World} {base m : Mem} {i : Nat} {bs : List UInt8} {b : UInt8} {Q : Value → Mem → Prop} (h : Bld base m i bs) (hl : bs.length + 1 ≤ 140737488355328) (hq : ∀ m', Bld base m' i (bs ++ [b]) → Q .nilIface m') :
    AbC Tryd.prog w0 35 [.pointer (some ⟨i, 0, none⟩), .int .u8 b.toNat] m Q := by
  refine AbC_fn ok35 (by simp) ?_
  have h0 := h
  obtain ⟨h1, h2, h3, pa, ob, h4, h5, h6, hz, h7⟩ := h
  simp -implicitDefEqProofs (disch := first | assumption | (simp only [wnA]; done) | (simp only [wnA]; omega) | omega | fail) [rc35, ro35, wkA, retV, stabOk, dC, ev, fillD, pickCells, putAt, bnd, slD, List.getElem?_cons_zero, List.getElem?_cons_succ, dR.eq_20, Mem.cell, Mem.row, wmA]
  refine c_copyCheck h4 h5 fun m1 n1 g1 o1 => ?_
  simp -implicitDefEqProofs (disch := first | assumption | (simp only [wnA]; done) | (simp only [wnA]; omega) | omega | fail) [wkA, retV, stabOk, dC, ev, fillD, pickCells, putAt, bnd, slD, List.getElem?_cons_zero, List.getElem?_cons_succ, dR.eq_20, Mem.cell, Mem.row, wmA, g1]
  rw [SK_bsl (cs := [.int .u8 b.toNat]) (by simp [wkA, retV, stabOk, dC, ev, fillD, pickCells, putAt, bnd, slD, List.getElem?_cons_zero, List.getElem?_cons_succ, dR.eq_20]) (by simp)]
  have hs1 : SlO m1 5 1 ob (bs.map byteV) bs.length := h6.keep (Nat.le_of_eq n1.symm) fun k hk => o1 _ (h7 k hk).2
  simp -implicitDefEqProofs (disch := first | assumption | (simp only [wnA]; done) | (simp only [wnA]; omega) | omega | fail) [wkA, retV, stabOk, dC, ev, fillD, pickCells, putAt, bnd, slD, List.getElem?_cons_zero, List.getElem?_cons_succ, dR.eq_20, Mem.cell, Mem.row, wmA, g1]
  have hne : ob ≠ some m1.next := hs1.old (Nat.le_refl _)
  refine SK_ap (hs1.push _) (by simp [wkA, retV, stabOk, dC, ev, fillD, pickCells, putAt, bnd, slD, List.getElem?_cons_zero, List.getElem?_cons_succ, dR.eq_20]) (ys := [.int .u8 b.toNat]) (by simp -implicitDefEqProofs (disch := first | assumption | (simp only [wnA]; done) | (simp only [wnA]; omega) | omega | fail) [wkA, retV, stabOk, dC, ev, fillD, pickCells, putAt, bnd, slD, List.getElem?_cons_zero, List.getElem?_cons_succ, dR.eq_20, elemsV, Mem.cell, Mem.row, wmA]) (k := 1) (by simp [wkA, retV, stabOk, dC, ev, fillD, pickCells, putAt, bnd, slD, List.getElem?_cons_zero, List.getElem?_cons_succ, dR.eq_20]) (by simp) (by simp [oneC]) (by omega) (by simp only [maxLen]; omega) (by simp) ?_
  have hoi : ob ≠ some i := fun e => (h7 i e).2 rfl
  simp -implicitDefEqProofs (disch := first | assumption | (simp only [wnA]; done) | (simp only [wnA]; omega) | omega | fail) [wkA, retV, stabOk, dC, ev, fillD, pickCells, putAt, bnd, slD, List.getElem?_cons_zero, List.getElem?_cons_succ, dR.eq_20, Mem.cell, Mem.row, wmA, g1]
  refine SK_st (i := i) (o := 1) (by simp [wkA, retV, stabOk, dC, ev, fillD, pickCells, putAt, bnd, slD, List.getElem?_cons_zero, List.getElem?_cons_succ, dR.eq_20]) (e := 61) (cs := [.pointer (some ⟨i, 0, none⟩), slV ob bs.length 1]) ?_ (by simp) (by simp [wkA, retV, stabOk, dC, ev, fillD, pickCells, putAt, bnd, slD, List.getElem?_cons_zero, List.getElem?_cons_succ, dR.eq_20]) (by simp [wkA, retV, stabOk, dC, ev, fillD, pickCells, putAt, bnd, slD, List.getElem?_cons_zero, List.getElem?_cons_succ, dR.eq_20]) ?_
  · rw [Mem.push_old _ _ (by simp [Mem.kill_nxt]; omega), Mem.kill_other _ hoi, Mem.push_old _ _ (by omega)]
    exact g1
  simp -implicitDefEqProofs (disch := first | assumption | (simp only [wnA]; done) | (simp only [wnA]; omega) | omega | fail) [wkA, retV, stabOk, dC, ev, fillD, pickCells, putAt, bnd, slD, List.getElem?_cons_zero, List.getElem?_cons_succ, dR.eq_20, Mem.cell, Mem.row, wmA]
  refine hq _ ?_
  have hb : Bld base (m1.push (.own [.int .u8 b.toNat] 5)) i bs := ⟨⟨by simp; have := h1.1; omega, fun k hk => by rw [Mem.push_old _ _ (by have := h1.1; omega), o1 _ (by omega), h1.2 k hk]⟩, h2, by simp; omega, _, ob, by rw [Mem.push_old _ _ (by omega)]; exact g1, .inr rfl, hs1.push _, hz, h7⟩
  have := hb.more (cs := [b]) (pa := .pointer none) rfl (by rw [Mem.push_old _ _ (by omega)]; exact g1) (fun _ _ => rfl) h7 (by simp)
  simpa [byteV] using this

theorem c_WriteString {w0 : World} {base m : Mem} {i : Nat} {bs : List UInt8} {s : ByteArray} {Q : Value → Mem → Prop} (h : Bld base m i bs) (hl : bs.length + s.size ≤ 140737488355328) (hq : ∀ m', Bld base m' i (bs ++ s.data.toList) → Q (.tuple ⟨[.int .i64 s.size, .nilIface]⟩) m') :
    AbC Tryd.prog w0 24 [.pointer (some ⟨i, 0, none⟩), .string s] m Q := by
  refine AbC_fn ok24 (by simp) ?_
  have h0 := h
  obtain ⟨h1, h2, h3, pa, ob, h4, h5, h6, hz, h7⟩ := h
  simp -implicitDefEqProofs (disch := first | assumption | (simp only [wnA]; done) | (simp only [wnA]; omega) | omega | fail) [rc24, ro24, wkA, retV, stabOk, dC, ev, fillD, pickCells, putAt, bnd, slD, List.getElem?_cons_zero, List.getElem?_cons_succ, dR.eq_20, Mem.cell, Mem.row, wmA]
  refine c_copyCheck h4 h5 fun m1 n1 g1 o1 => ?_
  have hs1 : SlO m1 5 1 ob (bs.map byteV) bs.length := h6.keep (Nat.le_of_eq n1.symm) fun k hk => o1 _ (h7 k hk).2
  have hb : Bld base m1 i bs := ⟨⟨by have := h1.1; omega, fun k hk => by rw [o1 _ (by omega), h1.2 k hk]⟩, h2, by omega, _, ob, g1, .inr rfl, hs1, hz, h7⟩
  have hsz : s.data.toList.length = s.size := by simp
  simp -implicitDefEqProofs (disch := first | assumption | (simp only [wnA]; done) | (simp only [wnA]; omega) | omega | fail) [wkA, retV, stabOk, dC, ev, fillD, pickCells, putAt, bnd, slD, List.getElem?_cons_zero, List.getElem?_cons_succ, dR.eq_20, Mem.cell, Mem.row, wmA, g1]
  have hoi : ob ≠ some i := fun e => (h7 i e).2 rfl
  by_cases h00 : s.size = 0
  · have he : s.data.toList = [] := List.length_eq_zero_iff.1 (by omega)
    have hsk : SK Tryd.prog w0 (.e (.app 5 1 1 (.tmp 12) (.tmp 13))) = SK Tryd.prog w0 (.e (.app 5 1 1 (.tmp 12) (.tmp 13))) := rfl
    have hx : ∀ (ts : Fr) (R : Value → Mem → Prop), ts 12 = slV ob bs.length 1 → ts 13 = .string s → R (slV ob bs.length 1) m1 → SK Tryd.prog w0 (.e (.app 5 1 1 (.tmp 12) (.tmp 13))) ts m1 R := by
      intro ts R e1 e2 hR
      simp only [SK, dE, ev, e1, e2, elemsV, if_true, lenV_str, h00]
      cases ob with
      | none =>
        have := hs1.2
        simp only [slV] at hR ⊢
        exact hR
      | some b => exact hR
    refine hx _ _ (by simp) (by simp) ?_
    simp -implicitDefEqProofs (disch := first | assumption | (simp only [wnA]; done) | (simp only [wnA]; omega) | omega | fail) [wkA, retV, stabOk, dC, ev, fillD, pickCells, putAt, bnd, slD, List.getElem?_cons_zero, List.getElem?_cons_succ, dR.eq_20, Mem.cell, Mem.row, wmA, g1]
    refine SK_st (i := i) (o := 1) (by simp [wkA, retV, stabOk, dC, ev, fillD, pickCells, putAt, bnd, slD, List.getElem?_cons_zero, List.getElem?_cons_succ, dR.eq_20]) (e := 61) (cs := [.pointer (some ⟨i, 0, none⟩), slV ob bs.length 1]) g1 (by simp) (by simp [wkA, retV, stabOk, dC, ev, fillD, pickCells, putAt, bnd, slD, List.getElem?_cons_zero, List.getElem?_cons_succ, dR.eq_20]) (by simp [wkA, retV, stabOk, dC, ev, fillD, pickCells, putAt, bnd, slD, List.getElem?_cons_zero, List.getElem?_cons_succ, dR.eq_20]) ?_
    simp -implicitDefEqProofs (disch := first | assumption | (simp only [wnA]; done) | (simp only [wnA]; omega) | omega | fail) [wkA, retV, stabOk, dC, ev, fillD, pickCells, putAt, bnd, slD, List.getElem?_cons_zero, List.getElem?_cons_succ, dR.eq_20, Mem.cell, Mem.row, wmA]
    refine hq _ ?_
    rw [he, List.append_nil]
    obtain ⟨a1, a2, a3, _⟩ := hb
    refine ⟨a1.set h2 _, h2, by simpa using a3, _, ob, by simp, .inr rfl, hs1.set hoi _, hz, h7⟩
  · refine SK_ap hs1 (by simp [wkA, retV, stabOk, dC, ev, fillD, pickCells, putAt, bnd, slD, List.getElem?_cons_zero, List.getElem?_cons_succ, dR.eq_20]) (ys := s.data.toList.map byteV) (by simp -implicitDefEqProofs (disch := first | assumption | (simp only [wnA]; done) | (simp only [wnA]; omega) | omega | fail) [wkA, retV, stabOk, dC, ev, fillD, pickCells, putAt, bnd, slD, List.getElem?_cons_zero, List.getElem?_cons_succ, dR.eq_20, elemsV, Mem.cell, Mem.row, wmA]) (k := s.size) (by simp [wkA, retV, stabOk, dC, ev, fillD, pickCells, putAt, bnd, slD, List.getElem?_cons_zero, List.getElem?_cons_succ, dR.eq_20]) (by omega) (byteV_oneC _) (by omega) (by simp only [maxLen]; omega) (by simp) ?_
    simp -implicitDefEqProofs (disch := first | assumption | (simp only [wnA]; done) | (simp only [wnA]; omega) | omega | fail) [wkA, retV, stabOk, dC, ev, fillD, pickCells, putAt, bnd, slD, List.getElem?_cons_zero, List.getElem?_cons_succ, dR.eq_20, Mem.cell, Mem.row, wmA, g1]
    refine SK_st (i := i) (o := 1) (by simp [wkA, retV, stabOk, dC, ev, fillD, pickCells, putAt, bnd, slD, List.getElem?_cons_zero, List.getElem?_cons_succ, dR.eq_20]) (e := 61) (cs := [.pointer (some ⟨i, 0, none⟩), slV ob bs.length 1]) ?_ (by simp) (by simp [wkA, retV, stabOk, dC, ev, fillD, pickCells, putAt, bnd, slD, List.getElem?_cons_zero, List.getElem?_cons_succ, dR.eq_20]) (by simp [wkA, retV, stabOk, dC, ev, fillD, pickCells, putAt, bnd, slD, List.getElem?_cons_zero, List.getElem?_cons_succ, dR.eq_20]) ?_
    · rw [Mem.push_old _ _ (by simp [Mem.kill_nxt]; omega), Mem.kill_other _ hoi]
      exact g1
    simp -implicitDefEqProofs (disch := first | assumption | (simp only [wnA]; done) | (simp only [wnA]; omega) | omega | fail) [wkA, retV, stabOk, dC, ev, fillD, pickCells, putAt, bnd, slD, List.getElem?_cons_zero, List.getElem?_cons_succ, dR.eq_20, Mem.cell, Mem.row, wmA]
    refine hq _ ?_
    have := hb.more (cs := s.data.toList) (pa := .pointer none) rfl g1 (fun _ _ => rfl) h7 (fun e => h00 (by rw [← hsz, e]; rfl))
    simpa using this

theorem bytesOf_map : ∀ (l : List UInt8), bytesOf (l.map byteV) = some l
  | [] => rfl
  | b :: l => by
    show (bytesOf (l.map byteV)).map (UInt8.ofNat ((b.toNat : Int).toNat) :: ·) = _
    rw [bytesOf_map l]
    simp

theorem c_BString {w0 : World} {base m : Mem} {i : Nat} {bs : List UInt8} {Q : Value → Mem → Prop} (h : Bld base m i bs) (hl : bs.length ≤ 140737488355328) (hq : ∀ m', Old base m' → Q (.string ⟨⟨bs⟩⟩) m') :
    AbC Tryd.prog w0 28 [.pointer (some ⟨i, 0, none⟩)] m Q := by
  refine AbC_fn ok28 (by simp) ?_
  obtain ⟨h1, h2, h3, pa, ob, h4, h5, h6, hz, h7⟩ := h
  cases ob with
  | none =>
    have h0 : bs.length = 0 := h6.2
    have h00 : bs = [] := List.length_eq_zero_iff.1 h0
    subst h00
    simp only [slV] at h4
    simp -implicitDefEqProofs (disch := first | assumption | (simp only [wnA]; done) | (simp only [wnA]; omega) | omega | fail) [rc28, ro28, wkA, retV, stabOk, dC, ev, fillD, pickCells, putAt, bnd, slD, List.getElem?_cons_zero, List.getElem?_cons_succ, dR.eq_20, Mem.cell, Mem.row, wmA, h4]
    simp only [SK, dE, ev, upd_at]
    simp -implicitDefEqProofs (disch := first | assumption | (simp only [wnA]; done) | (simp only [wnA]; omega) | omega | fail) [wkA, retV, stabOk, dC, ev, fillD, pickCells, putAt, bnd, slD, List.getElem?_cons_zero, List.getElem?_cons_succ, dR.eq_20, Mem.cell, Mem.row, wmA]
    exact hq _ h1
  | some b =>
    have hne : bs ≠ [] := fun e => by have := hz e; cases this
    have hpos : 0 < bs.length := List.length_pos_iff.2 hne
    obtain ⟨q1, q2, q3⟩ := h6
    obtain ⟨r1, r2⟩ := h7 b rfl
    rw [slV_some] at h4
    simp -implicitDefEqProofs (disch := first | assumption | (simp only [wnA]; done) | (simp only [wnA]; omega) | omega | fail) [rc28, ro28, wkA, retV, stabOk, dC, ev, fillD, pickCells, putAt, bnd, slD, List.getElem?_cons_zero, List.getElem?_cons_succ, dR.eq_20, Mem.cell, Mem.row, wmA, h4, hpos]
    have hrow : (List.map byteV bs).take bs.length = bs.map byteV := by
      rw [List.take_of_length_le (by simp)]
    have hk : ¬ ((bs.length : Int) = 0) := by omega
    have hk2 : (0 : Int) < bs.length ∧ (bs.length : Int) ≤ 9223372036854775807 := by omega
    simp only [SK, dE, ev, upd_at]
    simp -implicitDefEqProofs (disch := first | assumption | (simp only [wnA]; done) | (simp only [wnA]; omega) | omega | fail) [q2, hk, hk2, hrow, bytesOf_map, hne, hpos]
    simp -implicitDefEqProofs (disch := first | assumption | (simp only [wnA]; done) | (simp only [wnA]; omega) | omega | fail) [wkA, retV, stabOk, dC, ev, fillD, pickCells, putAt, bnd, slD, List.getElem?_cons_zero, List.getElem?_cons_succ, dR.eq_20, Mem.cell, Mem.row, wmA]
    exact hq _ (h1.set r1 _)
end Go.Proofs.YtgfkjldohilmkaaDoor.Ab
