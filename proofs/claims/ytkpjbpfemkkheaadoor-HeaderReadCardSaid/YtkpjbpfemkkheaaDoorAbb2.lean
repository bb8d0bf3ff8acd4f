/- Builders with room, and texts that are joined (over Ab21). -/
import Derived.Test.YtkpjbpfemkkheaaDoorAbz
import Derived.Test.YtkpjbpfemkkheaaDoorAbb1
set_option linter.unusedVariables false
set_option linter.unusedSimpArgs false
namespace Go.Proofs.YtkpjbpfemkkheaaDoor.Ab
open Go Go.RowKit
set_option maxHeartbeats 4000000
set_option maxRecDepth 100000

/-- A builder that may have an empty row. -/
def BldG (base m : Mem) (i : Nat) (bs : List UInt8) : Prop := Old base m ∧ base.next ≤ i ∧ i < m.next ∧ ∃ pa ob, m.get i = .own [pa, slV ob bs.length 1] 57 ∧ (pa = .pointer none ∨ pa = .pointer (some ⟨i, 0, none⟩)) ∧
  SlO m 5 1 ob (bs.map byteV) bs.length ∧ ∀ b, ob = some b → base.next ≤ b ∧ b ≠ i
theorem Bld.g {base m : Mem} {i : Nat} {bs : List UInt8} (h : Bld base m i bs) : BldG base m i bs :=
  let ⟨a, b, c, pa, ob, d, e, f, _, g⟩ := h; ⟨a, b, c, pa, ob, d, e, f, g⟩

theorem c_WriteStringG {w0 : World} {base m : Mem} {i : Nat} {bs : List UInt8} {s : ByteArray} {Q : Value → Mem → Prop} (h : BldG base m i bs) (hl : bs.length + s.size ≤ 140737488355328) (hq : ∀ m', BldG base m' i (bs ++ s.data.toList) → Q (.tuple ⟨[.int .i64 s.size, .nilIface]⟩) m') :
    AbC Tryd.prog w0 31 [.pointer (some ⟨i, 0, none⟩), .string s] m Q := by
  refine AbC_fn ok31 (by simp) ?_
  obtain ⟨h1, h2, h3, pa, ob, h4, h5, h6, h7⟩ := h
  simp -implicitDefEqProofs (disch := first | assumption | (simp only [wnA]; done) | (simp only [wnA]; omega) | omega | fail) [rc31, ro31, wkA, retV, stabOk, dC, ev, fillD, pickCells, putAt, bnd, slD, List.getElem?_cons_zero, List.getElem?_cons_succ, dR_sl, Mem.cell, Mem.row, wmA]
  refine c_copyCheck h4 h5 fun m1 n1 g1 o1 => ?_
  have hs1 : SlO m1 5 1 ob (bs.map byteV) bs.length := h6.keep (Nat.le_of_eq n1.symm) fun k hk => o1 _ (h7 k hk).2
  have hold : Old base m1 := ⟨by have := h1.1; omega, fun k hk => by rw [o1 _ (by omega), h1.2 k hk]⟩
  have hsz : s.data.toList.length = s.size := by simp
  simp -implicitDefEqProofs (disch := first | assumption | (simp only [wnA]; done) | (simp only [wnA]; omega) | omega | fail) [wkA, retV, stabOk, dC, ev, fillD, pickCells, putAt, bnd, slD, List.getElem?_cons_zero, List.getElem?_cons_succ, dR_sl, Mem.cell, Mem.row, wmA, g1]
  have hoi : ob ≠ some i := fun e => (h7 i e).2 rfl
  by_cases h00 : s.size = 0
  · have he : s.data.toList = [] := List.length_eq_zero_iff.1 (by omega)
    have hx : ∀ (ts : Fr) (R : Value → Mem → Prop), ts 12 = slV ob bs.length 1 → ts 13 = .string s → R (slV ob bs.length 1) m1 → SK Tryd.prog w0 (.e (.app 5 1 1 (.tmp 12) (.tmp 13))) ts m1 R := by
      intro ts R e1 e2 hR
      simp only [SK, dE, ev, e1, e2, elemsV, if_true, lenV_str, h00]
      cases ob with
      | none =>
        have := hs1.2
        simp only [slV] at hR ⊢
        exact hR
      | some b => exact hR
    refine hx _ _ (by simp) (by simp) ?_
    simp -implicitDefEqProofs (disch := first | assumption | (simp only [wnA]; done) | (simp only [wnA]; omega) | omega | fail) [wkA, retV, stabOk, dC, ev, fillD, pickCells, putAt, bnd, slD, List.getElem?_cons_zero, List.getElem?_cons_succ, dR_sl, Mem.cell, Mem.row, wmA, g1]
    refine SK_st (i := i) (o := 1) (by simp [wkA, retV, stabOk, dC, ev, fillD, pickCells, putAt, bnd, slD, List.getElem?_cons_zero, List.getElem?_cons_succ, dR_sl]) (e := 57) (cs := [.pointer (some ⟨i, 0, none⟩), slV ob bs.length 1]) g1 (by simp) (by simp [wkA, retV, stabOk, dC, ev, fillD, pickCells, putAt, bnd, slD, List.getElem?_cons_zero, List.getElem?_cons_succ, dR_sl]) (by simp [wkA, retV, stabOk, dC, ev, fillD, pickCells, putAt, bnd, slD, List.getElem?_cons_zero, List.getElem?_cons_succ, dR_sl]) ?_
    simp -implicitDefEqProofs (disch := first | assumption | (simp only [wnA]; done) | (simp only [wnA]; omega) | omega | fail) [wkA, retV, stabOk, dC, ev, fillD, pickCells, putAt, bnd, slD, List.getElem?_cons_zero, List.getElem?_cons_succ, dR_sl, Mem.cell, Mem.row, wmA]
    refine hq _ ?_
    rw [he, List.append_nil]
    exact ⟨hold.set h2 _, h2, by simp; omega, _, ob, by simp, .inr rfl, hs1.set hoi _, h7⟩
  · refine SK_ap hs1 (by simp [wkA, retV, stabOk, dC, ev, fillD, pickCells, putAt, bnd, slD, List.getElem?_cons_zero, List.getElem?_cons_succ, dR_sl]) (ys := s.data.toList.map byteV) (by simp -implicitDefEqProofs (disch := first | assumption | (simp only [wnA]; done) | (simp only [wnA]; omega) | omega | fail) [wkA, retV, stabOk, dC, ev, fillD, pickCells, putAt, bnd, slD, List.getElem?_cons_zero, List.getElem?_cons_succ, dR_sl, elemsV, Mem.cell, Mem.row, wmA]) (k := s.size) (by simp [wkA, retV, stabOk, dC, ev, fillD, pickCells, putAt, bnd, slD, List.getElem?_cons_zero, List.getElem?_cons_succ, dR_sl]) (by omega) (byteV_oneC _) (by omega) (by simp only [maxLen]; omega) (by simp) ?_
    simp -implicitDefEqProofs (disch := first | assumption | (simp only [wnA]; done) | (simp only [wnA]; omega) | omega | fail) [wkA, retV, stabOk, dC, ev, fillD, pickCells, putAt, bnd, slD, List.getElem?_cons_zero, List.getElem?_cons_succ, dR_sl, Mem.cell, Mem.row, wmA, g1]
    refine SK_st (i := i) (o := 1) (by simp [wkA, retV, stabOk, dC, ev, fillD, pickCells, putAt, bnd, slD, List.getElem?_cons_zero, List.getElem?_cons_succ, dR_sl]) (e := 57) (cs := [.pointer (some ⟨i, 0, none⟩), slV ob bs.length 1]) ?_ (by simp) (by simp [wkA, retV, stabOk, dC, ev, fillD, pickCells, putAt, bnd, slD, List.getElem?_cons_zero, List.getElem?_cons_succ, dR_sl]) (by simp [wkA, retV, stabOk, dC, ev, fillD, pickCells, putAt, bnd, slD, List.getElem?_cons_zero, List.getElem?_cons_succ, dR_sl]) ?_
    · rw [Mem.push_old _ _ (by simp [Mem.kill_nxt]; omega), Mem.kill_other _ hoi]
      exact g1
    simp -implicitDefEqProofs (disch := first | assumption | (simp only [wnA]; done) | (simp only [wnA]; omega) | omega | fail) [wkA, retV, stabOk, dC, ev, fillD, pickCells, putAt, bnd, slD, List.getElem?_cons_zero, List.getElem?_cons_succ, dR_sl, Mem.cell, Mem.row, wmA]
    refine hq _ ?_
    refine ⟨((hold.kill fun b hb => (h7 b hb).1).push _).set h2 _, h2, by simp [Mem.kill_nxt]; omega, _, some m1.next, by simp, .inr rfl, ⟨by simp, ?_⟩, fun b hb => by cases hb; exact ⟨by rw [n1]; exact h1.1, by omega⟩⟩
    refine ⟨?_, by simp [Mem.kill_nxt]⟩
    rw [Mem.set_other _ _ (by omega)]
    simp [Mem.push_get, Mem.kill_nxt]

theorem c_BStringG {w0 : World} {base m : Mem} {i : Nat} {bs : List UInt8} {Q : Value → Mem → Prop} (h : BldG base m i bs) (hne : bs ≠ []) (hl : bs.length ≤ 140737488355328) (hq : ∀ m', Old base m' → Q (.string ⟨⟨bs⟩⟩) m') :
    AbC Tryd.prog w0 32 [.pointer (some ⟨i, 0, none⟩)] m Q := by
  obtain ⟨h1, h2, h3, pa, ob, h4, h5, h6, h7⟩ := h
  exact c_BString ⟨h1, h2, h3, pa, ob, h4, h5, h6, fun e => absurd e hne, h7⟩ hl hq

theorem c_Grow {w0 : World} {base m : Mem} {i n : Nat} {Q : Value → Mem → Prop} (h : Bld base m i []) (hn : n ≤ 140737488355328) (hq : ∀ m', BldG base m' i [] → Q (.tuple ⟨[]⟩) m') :
    AbC Tryd.prog w0 30 [.pointer (some ⟨i, 0, none⟩), .int .i64 (n : Int)] m Q := by
  refine AbC_fn ok30 (by simp) ?_
  obtain ⟨h1, h2, h3, pa, ob, h4, h5, h6, hz, h7⟩ := h
  have hob := hz rfl
  subst hob
  simp only [List.length_nil, slV] at h4
  have f1 : (0 : Int) ≤ (n : Int) := by omega
  simp -implicitDefEqProofs (disch := first | assumption | (simp only [wnA]; done) | (simp only [wnA]; omega) | omega | fail) [rc30, ro30, wkA, retV, stabOk, dC, ev, fillD, pickCells, putAt, bnd, slD, List.getElem?_cons_zero, List.getElem?_cons_succ, dR_sl, Mem.cell, Mem.row, wmA]
  refine c_copyCheck h4 h5 fun m1 n1 g1 o1 => ?_
  have hold : Old base m1 := ⟨by have := h1.1; omega, fun k hk => by rw [o1 _ (by omega), h1.2 k hk]⟩
  simp -implicitDefEqProofs (disch := first | assumption | (simp only [wnA]; done) | (simp only [wnA]; omega) | omega | fail) [wkA, retV, stabOk, dC, ev, fillD, pickCells, putAt, bnd, slD, List.getElem?_cons_zero, List.getElem?_cons_succ, dR_sl, Mem.cell, Mem.row, wmA, g1, ltF f1, rc30_0]
  by_cases h0 : n = 0
  · subst h0
    simp -implicitDefEqProofs (disch := first | assumption | (simp only [wnA]; done) | (simp only [wnA]; omega) | omega | fail) [wkA, retV, stabOk, dC, ev, fillD, pickCells, putAt, bnd, slD, List.getElem?_cons_zero, List.getElem?_cons_succ, dR_sl, Mem.cell, Mem.row, wmA, g1]
    exact hq m1 ⟨hold, h2, by omega, _, none, g1, .inr rfl, ⟨rfl, rfl⟩, fun b hb => by cases hb⟩
  · have f2 : (0 : Int) < (n : Int) := by omega
    have f3 : 0 < n := by omega
    have e0 : IntKind.i64.wrap 0 = 0 := w64 (by omega)
    have en : IntKind.i64.wrap (n : Int) = (n : Int) := w64 (by omega)
    simp -implicitDefEqProofs (disch := first | assumption | (simp only [wnA]; done) | (simp only [wnA]; omega) | omega | fail) [wkA, retV, stabOk, dC, ev, fillD, pickCells, putAt, bnd, slD, List.getElem?_cons_zero, List.getElem?_cons_succ, dR_sl, Mem.cell, Mem.row, wmA, g1, e0, ltT f2, f3]
    refine AbC_fn ok45 (by simp) ?_
    simp -implicitDefEqProofs (disch := first | assumption | (simp only [wnA]; done) | (simp only [wnA]; omega) | omega | fail) [rc45, ro45, wkA, retV, stabOk, dC, ev, fillD, pickCells, putAt, bnd, slD, List.getElem?_cons_zero, List.getElem?_cons_succ, dR_sl, Mem.cell, Mem.row, wmA, g1, e0, en]
    refine x_mnz xis61 hn ?_
    have hin : i ≠ m1.next := by omega
    have hsl0 : slW 1 (.slice (some ⟨m1.next, 0, none⟩) n 1) none (some (.int .i64 0)) = some (.slice (some ⟨m1.next, 0, none⟩) 0 1) := by simp [slW, dR, ev, bnd, slD]
    simp -implicitDefEqProofs (disch := first | assumption | (simp only [wnA]; done) | (simp only [wnA]; omega) | omega | fail) [wkA, retV, stabOk, dC, ev, fillD, pickCells, putAt, bnd, slD, List.getElem?_cons_zero, List.getElem?_cons_succ, dR_sl, Mem.cell, Mem.row, wmA, g1, e0, en, hsl0]
    simp only [SK, dE, ev, upd_at]
    simp -implicitDefEqProofs (disch := first | assumption | (simp only [wnA]; done) | (simp only [wnA]; omega) | omega | fail) [wkA, retV, stabOk, dC, ev, fillD, pickCells, putAt, bnd, slD, List.getElem?_cons_zero, List.getElem?_cons_succ, dR_sl, Mem.cell, Mem.row, wmA, elemsV, g1]
    refine SK_st (i := i) (o := 1) (by simp [wkA, retV, stabOk, dC, ev, fillD, pickCells, putAt, bnd, slD, List.getElem?_cons_zero, List.getElem?_cons_succ, dR_sl]) (e := 57) (cs := [.pointer (some ⟨i, 0, none⟩), .slice none 0 0]) ?_ (by simp) (by simp [wkA, retV, stabOk, dC, ev, fillD, pickCells, putAt, bnd, slD, List.getElem?_cons_zero, List.getElem?_cons_succ, dR_sl]) (by simp [wkA, retV, stabOk, dC, ev, fillD, pickCells, putAt, bnd, slD, List.getElem?_cons_zero, List.getElem?_cons_succ, dR_sl, oneC]) ?_
    · rw [Mem.set_other _ _ hin, Mem.push_old _ _ (by omega)]; exact g1
    simp -implicitDefEqProofs (disch := first | assumption | (simp only [wnA]; done) | (simp only [wnA]; omega) | omega | fail) [wkA, retV, stabOk, dC, ev, fillD, pickCells, putAt, bnd, slD, List.getElem?_cons_zero, List.getElem?_cons_succ, dR_sl, Mem.cell, Mem.row, wmA]
    refine hq _ ?_
    refine ⟨((hold.push _).set (by rw [n1]; exact h1.1) _).set h2 _, h2, by simp; omega, _, some m1.next, by simp [slV], .inr rfl, ⟨rfl, ?_, by simp⟩, fun b hb => by cases hb; exact ⟨by rw [n1]; exact h1.1, by omega⟩⟩
    rw [Mem.set_other _ _ (by omega)]
    simp

/-- Texts, one behind the other, with a text between. -/
def joinL (sep : List UInt8) : List ByteArray → List UInt8
  | [] => []
  | x :: r => x.data.toList ++ r.flatMap fun y => sep ++ y.data.toList
/-- How many bytes texts have. -/
def totL (xs : List ByteArray) : Nat := (xs.map ByteArray.size).sum
theorem totL_take (xs : List ByteArray) (j : Nat) : totL (xs.take j) ≤ totL xs := by
  induction xs generalizing j with
  | nil => simp [totL]
  | cons x xs ih =>
    cases j with
    | zero => simp [totL]
    | succ j => have := ih j; simp only [totL, List.take_succ_cons, List.map_cons, List.sum_cons] at this ⊢; omega
theorem totL_succ {xs : List ByteArray} {j : Nat} (h : j < xs.length) : totL (xs.take (j + 1)) = totL (xs.take j) + xs[j].size := by
  unfold totL
  rw [List.take_succ_eq_append_getElem h, List.map_append, List.sum_append]; simp
theorem flat_sep_len (sep : List UInt8) (xs : List ByteArray) : (xs.flatMap fun y => sep ++ y.data.toList).length = sep.length * xs.length + totL xs := by
  induction xs with
  | nil => simp [totL]
  | cons x xs ih => simp only [List.flatMap_cons, List.length_append, ih, totL, List.map_cons, List.sum_cons, List.length_cons, Nat.mul_add, ByteArray.size, Array.length_toList]; omega

theorem c_Join {w0 : World} {m : Mem} {v : Value} {xs : List ByteArray} {sep : ByteArray} {Q : Value → Mem → Prop} (hv : SlR m 1 v (xs.map .string) xs.length) (hvb : ∀ b, blk v = some b → b < m.next) (h2 : 2 ≤ xs.length) (hs : 0 < sep.size) (hl : (sep.size + 1) * xs.length + totL xs ≤ 140737488355328)
    (hq : ∀ m', Old m m' → Q (.string ⟨⟨joinL sep.data.toList xs⟩⟩) m') : AbC Tryd.prog w0 22 [v, .string sep] m Q := by
  refine AbC_fn ok22 (by simp) ?_
  have k0 : (xs.length : Int) ≠ 0 := by omega
  have k1 : (xs.length : Int) ≠ 1 := by omega
  have hsx : (sep.size + 1) * xs.length = sep.size * xs.length + xs.length := by rw [Nat.add_mul, Nat.one_mul]
  have hmul : sep.size * (xs.length - 1) + sep.size = sep.size * xs.length := by
    obtain ⟨n, hn⟩ : ∃ n, xs.length = n + 1 := ⟨xs.length - 1, by omega⟩
    rw [hn, Nat.add_sub_cancel, Nat.mul_add, Nat.mul_one]
  have hsl : sep.size ≤ sep.size * xs.length := Nat.le_mul_of_pos_right _ (by omega)
  have e1 : IntKind.i64.wrap ((xs.length : Int) - 1) = ((xs.length - 1 : Nat) : Int) := by rw [w64 (by omega)]; omega
  have q1 : dBin .quo (.int .i64 9223372036854775807) (.int .i64 ((xs.length - 1 : Nat) : Int)) = some (.int .i64 ((9223372036854775807 / (xs.length - 1) : Nat) : Int)) := by
    rw [dBin_quo (by omega)]
    have : (9223372036854775807 : Int).tdiv ((xs.length - 1 : Nat) : Int) = ((9223372036854775807 / (xs.length - 1) : Nat) : Int) := by
      rw [Int.tdiv_eq_ediv_of_nonneg (by omega)]; rfl
    have h9 := Nat.div_le_self 9223372036854775807 (xs.length - 1)
    rw [this]
    generalize 9223372036854775807 / (xs.length - 1) = D at *
    rw [w64 (by omega)]
  have q2 : (sep.size : Int) < ((9223372036854775807 / (xs.length - 1) : Nat) : Int) := by
    have : sep.size + 1 ≤ 9223372036854775807 / (xs.length - 1) := by
      rw [Nat.le_div_iff_mul_le (by omega), Nat.add_mul, Nat.one_mul]; omega
    omega
  have q3 : IntKind.i64.wrap ((sep.size : Int) * ((xs.length - 1 : Nat) : Int)) = ((sep.size * (xs.length - 1) : Nat) : Int) := by
    have : (sep.size : Int) * ((xs.length - 1 : Nat) : Int) = ((sep.size * (xs.length - 1) : Nat) : Int) := by simp
    rw [this]; exact w64 (by omega)
  have q4 : IntKind.i64.wrap ((sep.size * (xs.length - 1) : Nat) : Int) = ((sep.size * (xs.length - 1) : Nat) : Int) := w64 (by omega)
  have hs' : (0 : Int) < (sep.size : Int) := by omega
  generalize hP : sep.size * (xs.length - 1) = P at *
  generalize hD : 9223372036854775807 / (xs.length - 1) = D at *
  generalize hN1 : xs.length - 1 = N1 at *
  have q5 : ¬ D ≤ sep.size := by omega
  have q6 : (D ≤ sep.size) = False := eq_false q5
  simp -implicitDefEqProofs (disch := first | assumption | (simp only [wnA]; done) | (simp only [wnA]; omega) | omega | fail) [rc22, ro22, wkA, retV, stabOk, dC, ev, fillD, pickCells, putAt, bnd, slD, List.getElem?_cons_zero, List.getElem?_cons_succ, dR_sl, Mem.cell, Mem.row, wmA, hv.slen, beqF k0, beqF k1, rc22_7, gtT hs', hs, e1, q1, q6, q3, q4, decide_false, rc22_6]
  have hPt : P + totL xs ≤ 140737488355328 := by omega
  refine LoopW_of (fun k ts m' => ∃ j, j + k = xs.length ∧ m' = m ∧ ts 0 = v ∧ ts 1 = .string sep ∧ ts 5 = .int .i64 ((P + totL (xs.take j) : Nat) : Int) ∧ ts 39 = v ∧ ts 40 = .int .i64 (xs.length : Nat) ∧ ts 41 = .int .i64 (j : Nat)) xs.length ?_ ?_
  · exact ⟨0, by omega, rfl, by simp [frA_at], by simp [frA_at], by simp [totL], by simp [frA_at], by simp, by simp⟩
  · rintro k ts m1 K ⟨j, hj, rfl, t0, t1, t5, t39, t40, t41⟩ hK
    simp -implicitDefEqProofs (disch := first | assumption | (simp only [wnA]; done) | (simp only [wnA]; omega) | omega | fail) [rc22_1, wkA, retV, stabOk, dC, ev, fillD, pickCells, putAt, bnd, slD, List.getElem?_cons_zero, List.getElem?_cons_succ, dR_sl, Mem.cell, Mem.row, wmA, t40, t41]
    by_cases hjl : j < xs.length
    · obtain ⟨bi, bo, L, hvv, hL, hLl, -, hLc⟩ := hv.at hjl
      have hc := hLc 0 (by omega)
      simp only [Nat.mul_one, Nat.add_zero, List.getElem?_map, List.getElem?_eq_getElem hjl, Option.map_some] at hc
      obtain ⟨x, hx⟩ : ∃ x, xs[j] = x := ⟨_, rfl⟩
      have hts := totL_succ hjl
      have htk := totL_take xs (j + 1)
      rw [hx] at hc hts
      rw [hvv] at t39
      obtain ⟨hlt', hc'⟩ := List.getElem?_eq_some_iff.1 hc
      have hjw : IntKind.i64.wrap ((j : Int) + 1) = ((j + 1 : Nat) : Int) := by rw [w64 (by omega)]; omega
      have hsub : IntKind.i64.wrap (9223372036854775807 - ((P + totL (xs.take j) : Nat) : Int)) = 9223372036854775807 - ((P + totL (xs.take j) : Nat) : Int) := w64 (by omega)
      have hgt : (x.size : Int) ≤ 9223372036854775807 - ((P + totL (xs.take j) : Nat) : Int) := by omega
      have hadd : IntKind.i64.wrap (((P + totL (xs.take j) : Nat) : Int) + (x.size : Int)) = ((P + totL (xs.take (j + 1)) : Nat) : Int) := by rw [w64 (by omega)]; omega
      generalize hT : P + totL (xs.take j) = T at *
      simp -implicitDefEqProofs (disch := first | assumption | (simp only [wnA]; done) | (simp only [wnA]; omega) | omega | fail) [hjl, rc22_0, wkA, retV, stabOk, dC, ev, fillD, pickCells, putAt, bnd, slD, List.getElem?_cons_zero, List.getElem?_cons_succ, dR_sl, Mem.cell, Mem.row, wmA, t5, t39, t40, t41, sidx_at, hL, hc, hc', hsub, gtF hgt, hadd, hjw]
      exact hK (k - 1) _ _ (by omega) ⟨j + 1, by omega, rfl, by simp [t0], by simp [t1], by simp, by simp [t39, hvv], by simp [t40], by simp⟩
    · have hjj : j = xs.length := by omega
      subst hjj
      rw [List.take_length] at t5
      simp -implicitDefEqProofs (disch := first | assumption | (simp only [wnA]; done) | (simp only [wnA]; omega) | omega | fail) [hjl, rc22_5, wkA, retV, stabOk, dC, ev, fillD, pickCells, putAt, bnd, slD, List.getElem?_cons_zero, List.getElem?_cons_succ, dR_sl, Mem.cell, Mem.row, wmA, t5]
      refine c_Grow (Bld.new (Old.refl m1)) hPt fun m2 hb => ?_
      have hv2 : SlR m2 1 v (xs.map .string) xs.length := hv.keep fun b h => hb.1.2 b (hvb b h)
      obtain ⟨bi, bo, L, hvv, hL, hLl, -, hLc⟩ := hv2.at (j := 0) (by omega)
      have hc := hLc 0 (by omega)
      have h0l : 0 < xs.length := by omega
      simp only [Nat.mul_one, Nat.add_zero, List.getElem?_map, List.getElem?_eq_getElem h0l, Option.map_some] at hc
      obtain ⟨x, hx⟩ : ∃ x, xs[0] = x := ⟨_, rfl⟩
      obtain ⟨ys, hys⟩ : ∃ ys, xs = x :: ys := by
        cases xs with
        | nil => simp at h0l
        | cons a r => exact ⟨r, by simp at hx; rw [hx]⟩
      rw [hx] at hc
      obtain ⟨hlt', hc'⟩ := List.getElem?_eq_some_iff.1 hc
      have hs0 : sidx 1 v (.int .i64 0) = some (.pointer (some ⟨bi, bo, none⟩)) := by
        have := sidx_at (b := bi) (o := bo) (n := xs.length) (c := 1) (j := 0) (sz := 1) (k := .i64) h0l
        simpa [hvv] using this
      have hlen : xs.length = ys.length + 1 := by rw [hys]; rfl
      have htot : totL xs = x.size + totL ys := by rw [hys]; simp [totL]
      have hJ : joinL sep.data.toList xs = x.data.toList ++ ys.flatMap fun y => sep.data.toList ++ y.data.toList := by rw [hys]; rfl
      have hsz : x.data.toList.length = x.size := by simp
      simp -implicitDefEqProofs (disch := first | assumption | (simp only [wnA]; done) | (simp only [wnA]; omega) | omega | fail) [wkA, retV, stabOk, dC, ev, fillD, pickCells, putAt, bnd, slD, List.getElem?_cons_zero, List.getElem?_cons_succ, dR_sl, Mem.cell, Mem.row, wmA, t0, hs0, hL, hc, hc']
      refine c_WriteStringG hb (by simp; omega) fun m3 hb3 => ?_
      have hv3 : SlR m3 1 v (xs.map .string) xs.length := hv.keep fun b h => hb3.1.2 b (hvb b h)
      obtain ⟨v', sl1, sv', sb'⟩ := hv3.behind (k := 1) (by omega)
      have sl2 : slW 1 v (some (.int .i64 1)) none = some v' := by simpa using sl1
      have sv2 : SlR m3 1 v' (ys.map .string) ys.length := by
        rw [hys] at sv'; simpa using sv'
      simp -implicitDefEqProofs (disch := first | assumption | (simp only [wnA]; done) | (simp only [wnA]; omega) | omega | fail) [wkA, retV, stabOk, dC, ev, fillD, pickCells, putAt, bnd, slD, List.getElem?_cons_zero, List.getElem?_cons_succ, dR_sl, Mem.cell, Mem.row, wmA, t0, sl2, sv2.slen]
      refine LoopW_of (fun k ts m' => ∃ j, j + k = ys.length ∧ ts 1 = .string sep ∧ ts 8 = .pointer (some ⟨m1.next, 0, none⟩) ∧ ts 63 = v' ∧ ts 64 = .int .i64 (ys.length : Nat) ∧ ts 65 = .int .i64 (j : Nat) ∧
        BldG m1 m' m1.next (x.data.toList ++ (ys.take j).flatMap fun y => sep.data.toList ++ y.data.toList)) ys.length ?_ ?_
      · exact ⟨0, by omega, by simp [t1], by simp, by simp, by simp, by simp, by simpa using hb3⟩
      · rintro k' ts' m4 K' ⟨j, hj', s1, s8, s63, s64, s65, hb4⟩ hK'
        simp -implicitDefEqProofs (disch := first | assumption | (simp only [wnA]; done) | (simp only [wnA]; omega) | omega | fail) [rc22_3, wkA, retV, stabOk, dC, ev, fillD, pickCells, putAt, bnd, slD, List.getElem?_cons_zero, List.getElem?_cons_succ, dR_sl, Mem.cell, Mem.row, wmA, s64, s65]
        have hfl := flat_sep_len sep.data.toList (ys.take j)
        have htk := totL_take ys j
        have htl : (ys.take j).length = min j ys.length := List.length_take
        by_cases hjl2 : j < ys.length
        · have hv4 : SlR m4 1 v' (ys.map .string) ys.length := sv2.keep fun b h => by rw [hb4.1.2 b (hvb b (sb' b h)), hb3.1.2 b (hvb b (sb' b h))]
          obtain ⟨ci, co, Lc, hvv2, hL2, hLl2, -, hLc2⟩ := hv4.at hjl2
          have hd := hLc2 0 (by omega)
          simp only [Nat.mul_one, Nat.add_zero, List.getElem?_map, List.getElem?_eq_getElem hjl2, Option.map_some] at hd
          obtain ⟨y, hy⟩ : ∃ y, ys[j] = y := ⟨_, rfl⟩
          have hts := totL_succ hjl2
          have htk1 := totL_take ys (j + 1)
          rw [hy] at hd hts
          rw [hvv2] at s63
          obtain ⟨hlt2, hd'⟩ := List.getElem?_eq_some_iff.1 hd
          have hjw : IntKind.i64.wrap ((j : Int) + 1) = ((j + 1 : Nat) : Int) := by rw [w64 (by omega)]; omega
          have hnx : ((ys.take (j + 1)).flatMap fun y => sep.data.toList ++ y.data.toList) = ((ys.take j).flatMap fun y => sep.data.toList ++ y.data.toList) ++ (sep.data.toList ++ y.data.toList) := by
            rw [List.take_succ_eq_append_getElem hjl2, List.flatMap_append, hy]; simp
          have hm1 : sep.data.toList.length * (ys.take j).length ≤ sep.size * ys.length := by
            rw [show sep.data.toList.length = sep.size from by simp]
            exact Nat.mul_le_mul_left _ (by omega)
          have hm2 : sep.size * xs.length = sep.size * ys.length + sep.size := by rw [hlen, Nat.mul_add, Nat.mul_one]
          have hss : sep.data.toList.length = sep.size := by simp
          generalize ((ys.take j).flatMap fun y => sep.data.toList ++ y.data.toList) = B at *
          simp -implicitDefEqProofs (disch := first | assumption | (simp only [wnA]; done) | (simp only [wnA]; omega) | omega | fail) [hjl2, rc22_2, wkA, retV, stabOk, dC, ev, fillD, pickCells, putAt, bnd, slD, List.getElem?_cons_zero, List.getElem?_cons_succ, dR_sl, Mem.cell, Mem.row, wmA, s1, s8, s63, s64, s65, sidx_at, hL2, hd, hd']
          refine c_WriteStringG hb4 (by rw [List.length_append]; omega) fun m5 hb5 => ?_
          simp -implicitDefEqProofs (disch := first | assumption | (simp only [wnA]; done) | (simp only [wnA]; omega) | omega | fail) [wkA, retV, stabOk, dC, ev, fillD, pickCells, putAt, bnd, slD, List.getElem?_cons_zero, List.getElem?_cons_succ, dR_sl, Mem.cell, Mem.row, wmA, s1, s8, s63, s64, s65]
          refine c_WriteStringG hb5 (by rw [List.length_append, List.length_append]; omega) fun m6 hb6 => ?_
          simp -implicitDefEqProofs (disch := first | assumption | (simp only [wnA]; done) | (simp only [wnA]; omega) | omega | fail) [wkA, retV, stabOk, dC, ev, fillD, pickCells, putAt, bnd, slD, List.getElem?_cons_zero, List.getElem?_cons_succ, dR_sl, Mem.cell, Mem.row, wmA, s1, s8, s63, s64, s65, hjw]
          exact hK' (k' - 1) _ _ (by omega) ⟨j + 1, by omega, by simp [s1], by simp [s8], by simp [s63, hvv2], by simp [s64], by simp, by rw [hnx]; simpa using hb6⟩
        · have hjj : j = ys.length := by omega
          subst hjj
          rw [List.take_length] at hb4 hfl
          simp -implicitDefEqProofs (disch := first | assumption | (simp only [wnA]; done) | (simp only [wnA]; omega) | omega | fail) [hjl2, rc22_4, wkA, retV, stabOk, dC, ev, fillD, pickCells, putAt, bnd, slD, List.getElem?_cons_zero, List.getElem?_cons_succ, dR_sl, Mem.cell, Mem.row, wmA, s8]
          refine c_BStringG hb4 ?_ ?_ fun m5 ho => ?_
          · intro e
            have := congrArg List.length e
            simp only [List.length_append, hfl, List.length_nil] at this
            have h9 : 1 ≤ sep.data.toList.length * ys.length := Nat.mul_pos (by simpa using hs) (by omega)
            omega
          · rw [List.length_append, hfl, show sep.data.toList.length = sep.size from by simp]
            have hm2 : sep.size * xs.length = sep.size * ys.length + sep.size := by rw [hlen, Nat.mul_add, Nat.mul_one]
            omega
          · simp -implicitDefEqProofs (disch := first | assumption | (simp only [wnA]; done) | (simp only [wnA]; omega) | omega | fail) [wkA, retV, stabOk, dC, ev, fillD, pickCells, putAt, bnd, slD, List.getElem?_cons_zero, List.getElem?_cons_succ, dR_sl, Mem.cell, Mem.row, wmA]
            rw [← hJ]
            exact hq m5 ho
end Go.Proofs.YtkpjbpfemkkheaaDoor.Ab
