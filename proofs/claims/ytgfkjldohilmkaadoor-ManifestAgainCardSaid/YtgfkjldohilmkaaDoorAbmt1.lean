/- A manifest's text, and the document's own words for it (over Ab21). -/
import Derived.Test.YtgfkjldohilmkaaDoorAbz
import Derived.Test.YtgfkjldohilmkaaDoorAbi1
import Derived.Test.YtgfkjldohilmkaaDoorAbq1
import Derived.Test.YtgfkjldohilmkaaDoorAbm1
set_option linter.unusedVariables false
set_option linter.unusedSimpArgs false
namespace Go.Proofs.YtgfkjldohilmkaaDoor.Ab
open Go Go.RowKit
set_option maxHeartbeats 4000000
set_option maxRecDepth 100000

theorem cat2 {a b : List UInt8} (h : a.length + b.length ≤ 9223372036854775807) : dBin .add (.string ⟨⟨a⟩⟩) (.string ⟨⟨b⟩⟩) = some (.string ⟨⟨a ++ b⟩⟩) := by
  rw [dBin_sadd (by exact h), bApp_eq]
theorem Bld.keep {base m m' : Mem} {i : Nat} {bs : List UInt8} (h : Bld base m i bs) (o : Old m m') : Bld base m' i bs := by
  obtain ⟨h1, h2, h3, pa, ob, h4, h5, h6, hz, h7⟩ := h
  refine ⟨h1.trans o, h2, Nat.lt_of_lt_of_le h3 o.1, pa, ob, by rw [o.2 _ h3]; exact h4, h5, h6.keep o.1 fun b hb => o.2 b ?_, hz, h7⟩
  subst hb
  exact h6.lt

/-! The document's digits. -/
theorem hex_sub : ∀ k : Fin 16, (ByteArray.mk #[48, 49, 50, 51, 52, 53, 54, 55, 56, 57, 97, 98, 99, 100, 101, 102]).extract k.val (k.val + 1) = ⟨⟨[digC k.val]⟩⟩ := by decide +kernel
theorem numS_nat (B n : Nat) : numS B (n : Int) = digs B n := by
  unfold numS sgn
  rw [if_neg (by simp)]
  simp
theorem c_digN {w0 : World} {m : Mem} {B : Nat} (hB : B = 10 ∨ B = 16) : ∀ (n : Nat), n ≤ 9223372036854775807 → ∀ {Q : Value → Mem → Prop}, Q (.string ⟨⟨digs B n⟩⟩) m → AbC Tryd.prog w0 31 [.int .i64 (n : Int), .int .i64 (B : Int)] m Q := by
  intro n
  induction n using Nat.strongRecOn with
  | _ n ih =>
    intro hn Q hq
    refine AbC_fn ok31 (by simp) ?_
    have f0 : (0 : Int) ≤ (n : Int) := by omega
    simp -implicitDefEqProofs (disch := first | assumption | (simp only [wnA]; done) | (simp only [wnA]; omega) | omega | fail) [rc31, ro31, wkA, retV, stabOk, dC, ev, fillD, pickCells, putAt, bnd, slD, List.getElem?_cons_zero, List.getElem?_cons_succ, dR_sl, Mem.cell, Mem.row, wmA, ltF f0, rc31_1]
    by_cases hb : n < B
    · have hb' : (n : Int) < (B : Int) := by omega
      have h16 : n < 16 := by omega
      have hs := hex_sub ⟨n, h16⟩
      simp only at hs
      have hw : IntKind.i64.wrap ((n : Int) + 1) = ((n + 1 : Nat) : Int) := by rw [w64 (by omega)]; omega
      have hsz : (ByteArray.mk #[48, 49, 50, 51, 52, 53, 54, 55, 56, 57, 97, 98, 99, 100, 101, 102]).size = 16 := rfl
      have p1 : (0 : Int) ≤ (n : Int) + 1 ∧ (n : Int) + 1 ≤ 16 := by omega
      have p3 : (n : Int) ≤ (n : Int) + 1 := by omega
      rw [digs_lt hb] at hq
      generalize digC n = c at *
      simp -implicitDefEqProofs (disch := first | assumption | (simp only [wnA]; done) | (simp only [wnA]; omega) | omega | fail) [wkA, retV, stabOk, dC, ev, fillD, pickCells, putAt, bnd, slD, List.getElem?_cons_zero, List.getElem?_cons_succ, dR_sl, Mem.cell, Mem.row, wmA, ltT hb', hb, hw, hsz, p1, p3, hs]
      exact hq
    · have hb' : ¬ (n : Int) < (B : Int) := by omega
      have hB0 : (B : Int) ≠ 0 := by omega
      have hd : (n : Int).tdiv (B : Int) = ((n / B : Nat) : Int) := by rw [Int.tdiv_eq_ediv_of_nonneg (by omega)]; rfl
      have hm : (n : Int).tmod (B : Int) = ((n % B : Nat) : Int) := by rw [Int.tmod_eq_emod_of_nonneg (by omega)]; rfl
      have h1 : n / B < n := Nat.div_lt_self (by omega) (by omega)
      have h2 : n % B < B := Nat.mod_lt _ (by omega)
      have hDle : n / B ≤ n := Nat.div_le_self _ _
      have hwd : IntKind.i64.wrap ((n / B : Nat) : Int) = ((n / B : Nat) : Int) := by
        generalize n / B = D at hDle ⊢
        exact w64 (by omega)
      have l1 := digs_64 (b := B) (by omega) (show n / B < 18446744073709551616 by omega)
      have hdl : (digs B (n % B)).length = 1 := by rw [digs_lt h2]; rfl
      have hcat := cat2 (a := digs B (n / B)) (b := digs B (n % B)) (by omega)
      have q1 : dBin .quo (.int .i64 (n : Int)) (.int .i64 (B : Int)) = some (.int .i64 ((n / B : Nat) : Int)) := by rw [dBin_quo hB0, hd, hwd]
      have q2 : dBin .rem (.int .i64 (n : Int)) (.int .i64 (B : Int)) = some (.int .i64 ((n % B : Nat) : Int)) := by rw [dBin_rem hB0, hm]
      have hge : digs B n = digs B (n / B) ++ digs B (n % B) := by rw [digs_ge (by omega) (by omega), digs_lt h2]
      rw [hge] at hq
      generalize hD : n / B = D at *
      generalize hM : n % B = M at *
      simp -implicitDefEqProofs (disch := first | assumption | (simp only [wnA]; done) | (simp only [wnA]; omega) | omega | fail) [wkA, retV, stabOk, dC, ev, fillD, pickCells, putAt, bnd, slD, List.getElem?_cons_zero, List.getElem?_cons_succ, dR_sl, Mem.cell, Mem.row, wmA, hb, q1, q2, rc31_0]
      refine ih D h1 (by omega) ?_
      simp -implicitDefEqProofs (disch := first | assumption | (simp only [wnA]; done) | (simp only [wnA]; omega) | omega | fail) [wkA, retV, stabOk, dC, ev, fillD, pickCells, putAt, bnd, slD, List.getElem?_cons_zero, List.getElem?_cons_succ, dR_sl, Mem.cell, Mem.row, wmA]
      refine ih M (by omega) (by omega) ?_
      simp -implicitDefEqProofs (disch := first | assumption | (simp only [wnA]; done) | (simp only [wnA]; omega) | omega | fail) [wkA, retV, stabOk, dC, ev, fillD, pickCells, putAt, bnd, slD, List.getElem?_cons_zero, List.getElem?_cons_succ, dR_sl, Mem.cell, Mem.row, wmA, hcat]
      exact hq
theorem c_digits {w0 : World} {m : Mem} {B : Nat} (hB : B = 10 ∨ B = 16) {n : Int} (hn : -9223372036854775807 ≤ n ∧ n ≤ 9223372036854775807) {Q : Value → Mem → Prop} (hq : Q (.string ⟨⟨numS B n⟩⟩) m) : AbC Tryd.prog w0 31 [.int .i64 n, .int .i64 (B : Int)] m Q := by
  by_cases h : 0 ≤ n
  · obtain ⟨k, rfl⟩ : ∃ k : Nat, n = k := ⟨n.toNat, by omega⟩
    rw [numS_nat] at hq
    exact c_digN hB k (by omega) hq
  · obtain ⟨k, rfl⟩ : ∃ k : Nat, n = -(k : Int) := ⟨n.natAbs, by omega⟩
    refine AbC_fn ok31 (by simp) ?_
    have f0 : -(k : Int) < 0 := by omega
    have hw : IntKind.i64.wrap (0 - -(k : Int)) = (k : Int) := by rw [w64 (by omega)]; omega
    have hw' : IntKind.i64.wrap (k : Int) = (k : Int) := w64 (by omega)
    have hN : numS B (-(k : Int)) = 45 :: digs B k := by
      unfold numS sgn
      rw [if_pos (by simpa using f0)]
      simp
    rw [hN] at hq
    have l1 := digs_64 (b := B) (by omega) (show k < 18446744073709551616 by omega)
    have hcat := cat2 (a := [45]) (b := digs B k) (by simp; omega)
    have hk0 : 0 < k := by omega
    simp -implicitDefEqProofs (disch := first | assumption | (simp only [wnA]; done) | (simp only [wnA]; omega) | omega | fail) [rc31, ro31, wkA, retV, stabOk, dC, ev, fillD, pickCells, putAt, bnd, slD, List.getElem?_cons_zero, List.getElem?_cons_succ, dR_sl, Mem.cell, Mem.row, wmA, ltT f0, hk0, hw, hw']
    refine c_digN hB k (by omega) ?_
    simp -implicitDefEqProofs (disch := first | assumption | (simp only [wnA]; done) | (simp only [wnA]; omega) | omega | fail) [wkA, retV, stabOk, dC, ev, fillD, pickCells, putAt, bnd, slD, List.getElem?_cons_zero, List.getElem?_cons_succ, dR_sl, Mem.cell, Mem.row, wmA, hcat]
    exact hq

theorem c_FormatUint16 {w0 : World} {m : Mem} {u : Nat} {Q : Value → Mem → Prop} (hp : Part L0 m) (hu : u < 18446744073709551616) (hq : ∀ m', Old m m' → Q (.string ⟨⟨digs 16 u⟩⟩) m') : AbC Tryd.prog w0 27 [.int .u64 (u : Int), .int .i64 16] m Q := by
  refine AbC_fn ok27 (by simp) ?_
  simp -implicitDefEqProofs (disch := first | assumption | (simp only [wnA]; done) | (simp only [wnA]; omega) | omega | fail) [rc27, ro27, wkA, retV, stabOk, dC, ev, fillD, pickCells, putAt, bnd, slD, List.getElem?_cons_zero, List.getElem?_cons_succ, dR_sl, Mem.cell, Mem.row, wmA]
  refine AbC_fn ok39 (by simp) ?_
  simp -implicitDefEqProofs (disch := first | assumption | (simp only [wnA]; done) | (simp only [wnA]; omega) | omega | fail) [rc39, ro39, wkA, retV, stabOk, dC, ev, fillD, pickCells, putAt, bnd, slD, List.getElem?_cons_zero, List.getElem?_cons_succ, dR_sl, Mem.cell, Mem.row, wmA, rc39_1]
  refine c_fmtBits (B := 16) (k := 4) (a := u) (neg := false) hp rfl (by omega) (by omega) hu (by simp) pow16 tz16 fun m' ho => ?_
  simp -implicitDefEqProofs (disch := first | assumption | (simp only [wnA]; done) | (simp only [wnA]; omega) | omega | fail) [wkA, retV, stabOk, dC, ev, fillD, pickCells, putAt, bnd, slD, List.getElem?_cons_zero, List.getElem?_cons_succ, dR_sl, Mem.cell, Mem.row, wmA]
  exact hq m' ho

/-! An entry's line. -/
structure En where
  nm : ByteArray
  a : Int
  s : Int
  p : Int
  w : Int
def En.cells (e : En) : List Value := [.string e.nm, .int .i64 e.a, .int .i64 e.s, .int .u32 e.p, .int .i64 e.w]
theorem enl (e : En) : e.cells.length = 5 := rfl
def En.ok (e : En) : Prop := e.nm.size ≤ 1048576 ∧ (-9223372036854775808 ≤ e.a ∧ e.a ≤ 9223372036854775807) ∧ (-9223372036854775808 ≤ e.s ∧ e.s ≤ 9223372036854775807) ∧ (0 ≤ e.p ∧ e.p ≤ 4294967295) ∧ (-9223372036854775808 ≤ e.w ∧ e.w ≤ 9223372036854775807)
def wayL (w : Int) : List UInt8 := if w = 1 then [99, 114, 99] else if w = 2 then [108, 97, 114, 103, 101] else if w = 3 then [98, 97, 116, 99, 104] else [99, 104, 101, 99, 107]
theorem wayL_len (w : Int) : (wayL w).length ≤ 5 := by
  unfold wayL
  split
  · simp
  · split
    · simp
    · split <;> simp
/-- A name in quotes. -/
def qL (l : List UInt8) : List UInt8 := match escL l with
  | some e => 34 :: (e ++ [34])
  | none => []
theorem quoteV_eq (l : List UInt8) : quoteV l = .tuple ⟨[.string ⟨⟨qL l⟩⟩, .bool (escL l).isSome]⟩ := by
  unfold quoteV qL
  split <;> rename_i h <;> simp [h]
theorem qL_len (l : List UInt8) : (qL l).length ≤ 2 * l.length + 2 := by
  unfold qL
  split
  · rename_i e h; have := escL_len h; simp; omega
  · simp
def lineL (e : En) : List UInt8 := [105, 109, 97, 103, 101, 32] ++ qL e.nm.data.toList ++ [32, 97, 116, 32, 48, 120] ++ numS 16 e.a ++ [32, 115, 105, 122, 101, 32] ++ numS 10 e.s ++ [32, 112, 114, 105, 110, 116, 32, 48, 120] ++ digs 16 e.p.toNat ++ [32, 98, 121, 32] ++ wayL e.w ++ [59, 10]
theorem num_len {B : Nat} (hB : B = 10 ∨ B = 16) {i : Int} (hi : -9223372036854775808 ≤ i ∧ i ≤ 9223372036854775807) : (numS B i).length ≤ 23 := by
  have := digs_64 (b := B) (n := i.natAbs) (by omega) (by omega)
  unfold numS sgn
  split <;> simp <;> omega
theorem lineL_len {e : En} (h : e.ok) : (lineL e).length ≤ 2 * e.nm.size + 130 := by
  obtain ⟨h1, h2, h3, h4, h5⟩ := h
  have l1 := qL_len e.nm.data.toList
  have l2 := num_len (B := 16) (.inr rfl) h2
  have l3 := num_len (B := 10) (.inl rfl) h3
  have l4 := digs_64 (b := 16) (n := e.p.toNat) (by omega) (by omega)
  have l5 := wayL_len e.w
  have l6 : e.nm.data.toList.length = e.nm.size := by simp
  simp only [lineL, List.length_append, List.length_cons, List.length_nil]
  omega

theorem w_line {w0 : World} {Q : AQ} {ts : Fr} {base m : Mem} {i b : Nat} {bs : List UInt8} {e : En} (hp : Part L0 base) (ht : Ten w0) (he : e.ok) (hb : Bld base m i bs) (hbl : bs.length ≤ 1099511627776) (hg : m.get b = .own e.cells 36) (hbn : b < m.next)
    (t3 : ts 3 = .pointer (some ⟨i, 0, none⟩)) (t5 : ts 5 = .pointer (some ⟨b, 0, none⟩)) (t6 : ts 6 = .string ⟨⟨wayL e.w⟩⟩)
    (hq : ∀ ts' m', ts' 3 = ts 3 → ts' 9 = ts 9 → ts' 10 = ts 10 → ts' 11 = ts 11 → Bld base m' i (bs ++ lineL e) → Q .normal ts' m') : AbW Tryd.prog w0 rc11_0 Q ts m := by
  have hll := lineL_len he
  obtain ⟨h1, h2, h3, h4, h5⟩ := he
  have l1 := qL_len e.nm.data.toList
  have l2 := num_len (B := 16) (.inr rfl) h2
  have l3 := num_len (B := 10) (.inl rfl) h3
  have l4 := digs_64 (b := 16) (n := e.p.toNat) (by omega) (by omega)
  have l5 := wayL_len e.w
  have l6 : e.nm.data.toList.length = e.nm.size := by simp
  simp only [En.cells] at hg
  simp -implicitDefEqProofs (disch := first | assumption | (simp only [wnA]; done) | (simp only [wnA]; omega) | omega | fail) [rc11_0, wkA, retV, stabOk, dC, ev, fillD, pickCells, putAt, bnd, slD, List.getElem?_cons_zero, List.getElem?_cons_succ, dR_sl, Mem.cell, Mem.row, wmA, t5, hg]
  refine c_Quote (by omega) fun m1 o1 => ?_
  rw [quoteV_eq]
  have g1 := o1.2 b hbn ▸ hg
  have b1 := hb.keep o1
  have n1 := o1.1
  have hpe : ∃ u : Nat, e.p = u ∧ u ≤ 4294967295 := ⟨e.p.toNat, by omega, by omega⟩
  obtain ⟨u, hu, hu2⟩ := hpe
  have wu : IntKind.u64.wrap e.p = (u : Int) := by rw [hu]; exact IntWalk.u64_in _ (by omega)
  simp -implicitDefEqProofs (disch := first | assumption | (simp only [wnA]; done) | (simp only [wnA]; omega) | omega | (simp only [List.length_append, List.length_cons, List.length_nil]; omega) | fail) [wkA, retV, stabOk, dC, ev, fillD, pickCells, putAt, bnd, slD, List.getElem?_cons_zero, List.getElem?_cons_succ, dR_sl, Mem.cell, Mem.row, wmA, t5, t6, g1, cat2, wu]
  refine c_FormatInt (B := 16) (Old.part hp (hb.1.trans o1)) ht (.inr (.inr rfl)) h2 fun m2 o2 => ?_
  have g2 := o2.2 b (by omega) ▸ g1
  have b2 := b1.keep o2
  have n2 := o2.1
  simp -implicitDefEqProofs (disch := first | assumption | (simp only [wnA]; done) | (simp only [wnA]; omega) | omega | (simp only [List.length_append, List.length_cons, List.length_nil]; omega) | fail) [wkA, retV, stabOk, dC, ev, fillD, pickCells, putAt, bnd, slD, List.getElem?_cons_zero, List.getElem?_cons_succ, dR_sl, Mem.cell, Mem.row, wmA, t5, t6, g1, g2, cat2, wu]
  refine c_Itoa ht h3 ?_
  simp -implicitDefEqProofs (disch := first | assumption | (simp only [wnA]; done) | (simp only [wnA]; omega) | omega | (simp only [List.length_append, List.length_cons, List.length_nil]; omega) | fail) [wkA, retV, stabOk, dC, ev, fillD, pickCells, putAt, bnd, slD, List.getElem?_cons_zero, List.getElem?_cons_succ, dR_sl, Mem.cell, Mem.row, wmA, t5, t6, g1, g2, cat2, wu]
  refine c_FormatUint16 (Old.part hp ((hb.1.trans o1).trans o2)) (by omega) fun m3 o3 => ?_
  have b3 := b2.keep o3
  have hut : e.p.toNat = u := by omega
  rw [hut] at l4
  simp -implicitDefEqProofs (disch := first | assumption | (simp only [wnA]; done) | (simp only [wnA]; omega) | omega | (simp only [List.length_append, List.length_cons, List.length_nil]; omega) | fail) [wkA, retV, stabOk, dC, ev, fillD, pickCells, putAt, bnd, slD, List.getElem?_cons_zero, List.getElem?_cons_succ, dR_sl, Mem.cell, Mem.row, wmA, t3, t5, t6, g1, g2, cat2, wu]
  refine c_WriteString b3 ?_ fun m4 b4 => ?_
  · show _ + List.length _ ≤ _
    simp only [List.length_append, List.length_cons, List.length_nil]
    omega
  · simp -implicitDefEqProofs (disch := first | assumption | (simp only [wnA]; done) | (simp only [wnA]; omega) | omega | fail) [wkA, retV, stabOk, dC, ev, fillD, pickCells, putAt, bnd, slD, List.getElem?_cons_zero, List.getElem?_cons_succ, dR_sl, Mem.cell, Mem.row, wmA]
    refine hq _ m4 (by simp) (by simp) (by simp) (by simp) ?_
    have : lineL e = _ := rfl
    simpa [lineL, hut] using b4

theorem c_Ways {w0 : World} {m : Mem} {Q : Value → Mem → Prop} (hq : Q (.slice (some ⟨m.next, 0, none⟩) 4 1) (m.push (.own [.string ⟨⟨wayL 0⟩⟩, .string ⟨⟨wayL 1⟩⟩, .string ⟨⟨wayL 2⟩⟩, .string ⟨⟨wayL 3⟩⟩] 9))) : AbC Tryd.prog w0 15 [] m Q := by
  refine AbC_fn ok15 (by simp) ?_
  simp -implicitDefEqProofs (disch := first | assumption | (simp only [wnA]; done) | (simp only [wnA]; omega) | omega | fail) [rc15, ro15, wkA, retV, stabOk, dC, ev, fillD, pickCells, putAt, bnd, slD, List.getElem?_cons_zero, List.getElem?_cons_succ, dR_sl, Mem.cell, Mem.row, wmA]
  rw [SK_bsl (cs := [.string ⟨⟨wayL 0⟩⟩, .string ⟨⟨wayL 1⟩⟩, .string ⟨⟨wayL 2⟩⟩, .string ⟨⟨wayL 3⟩⟩]) (by simp [wkA, retV, stabOk, dC, ev, fillD, pickCells, putAt, bnd, slD, List.getElem?_cons_zero, List.getElem?_cons_succ, dR_sl, wayL]) (by simp)]
  simp -implicitDefEqProofs (disch := first | assumption | (simp only [wnA]; done) | (simp only [wnA]; omega) | omega | fail) [wkA, retV, stabOk, dC, ev, fillD, pickCells, putAt, bnd, slD, List.getElem?_cons_zero, List.getElem?_cons_succ, dR_sl, Mem.cell, Mem.row, wmA]
  exact hq

/-- How much entries tell. -/
def totE (es : List En) : Nat := (es.map fun e => 2 * e.nm.size + 130).sum
theorem totE_take (es : List En) (j : Nat) : totE (es.take j) ≤ totE es := by
  induction es generalizing j with
  | nil => simp [totE]
  | cons x xs ih =>
    cases j with
    | zero => simp [totE]
    | succ j => have := ih j; simp only [totE, List.take_succ_cons, List.map_cons, List.sum_cons] at this ⊢; omega
theorem lines_len {es : List En} (h : ∀ e ∈ es, e.ok) : (es.flatMap lineL).length ≤ totE es := by
  induction es with
  | nil => simp [totE]
  | cons x xs ih =>
    have h1 := lineL_len (h x (by simp))
    have h2 := ih fun e he => h e (by simp [he])
    simp only [List.flatMap_cons, List.length_append, totE, List.map_cons, List.sum_cons] at h2 ⊢
    omega

theorem c_MText {w0 : World} {m : Mem} {v : Value} {es : List En} {Q : Value → Mem → Prop} (hp : Part L0 m) (ht : Ten w0) (hv : SlR m 5 v (es.flatMap En.cells) es.length) (hvb : ∀ b, blk v = some b → b < m.next) (he : ∀ e ∈ es, e.ok) (hl : totE es ≤ 1099511627776) (hn : es.length ≤ 1048576)
    (hq : ∀ m', Old m m' → Q (.string ⟨⟨es.flatMap lineL⟩⟩) m') : AbC Tryd.prog w0 11 [v] m Q := by
  refine AbC_fn ok11 (by simp) ?_
  simp -implicitDefEqProofs (disch := first | assumption | (simp only [wnA]; done) | (simp only [wnA]; omega) | omega | fail) [rc11, ro11, wkA, retV, stabOk, dC, ev, fillD, pickCells, putAt, bnd, slD, List.getElem?_cons_zero, List.getElem?_cons_succ, dR_sl, Mem.cell, Mem.row, wmA, hv.slen]
  refine LoopW_of (fun k ts m' => ∃ j, j + k = es.length ∧ ts 3 = .pointer (some ⟨m.next, 0, none⟩) ∧ ts 9 = v ∧ ts 10 = .int .i64 (es.length : Nat) ∧ ts 11 = .int .i64 (j : Nat) ∧ Bld m m' m.next ((es.take j).flatMap lineL)) es.length ?_ ?_
  · exact ⟨0, by omega, by simp, by simp [frA_at], by simp, by simp, Bld.new (Old.refl m)⟩
  · rintro k ts m1 K ⟨j, hj, t3, t9, t10, t11, hb⟩ hK
    have hlen := lines_len (es := es.take j) fun e h => he e (List.mem_of_mem_take h)
    have htk := totE_take es j
    simp -implicitDefEqProofs (disch := first | assumption | (simp only [wnA]; done) | (simp only [wnA]; omega) | omega | fail) [rc11_2, wkA, retV, stabOk, dC, ev, fillD, pickCells, putAt, bnd, slD, List.getElem?_cons_zero, List.getElem?_cons_succ, dR_sl, Mem.cell, Mem.row, wmA, t10, t11]
    by_cases hjl : j < es.length
    · have hv1 : SlR m1 5 v (es.flatMap En.cells) es.length := hv.keep fun b h => hb.1.2 b (hvb b h)
      obtain ⟨bi, bo, L, hvv, hL, hLl, hLt, -⟩ := hv1.at hjl
      rw [flat_at enl es (List.getElem?_eq_getElem hjl)] at hLt
      obtain ⟨e, hx⟩ : ∃ e, es[j] = e := ⟨_, rfl⟩
      have heo : e.ok := he e (by rw [← hx]; exact List.getElem_mem hjl)
      have hnx : (es.take (j + 1)).flatMap lineL = (es.take j).flatMap lineL ++ lineL e := by
        rw [List.take_succ_eq_append_getElem hjl, List.flatMap_append, hx]; simp
      rw [hx] at hLt
      rw [hvv] at t9
      have hle : bo + j * 5 + 5 ≤ L.length := by omega
      have hjw : IntKind.i64.wrap ((j : Int) + 1) = ((j + 1 : Nat) : Int) := by rw [w64 (by omega)]; omega
      simp -implicitDefEqProofs (disch := first | assumption | (simp only [wnA]; done) | (simp only [wnA]; omega) | omega | fail) [hjl, rc11_1, wkA, retV, stabOk, dC, ev, fillD, pickCells, putAt, bnd, slD, List.getElem?_cons_zero, List.getElem?_cons_succ, dR_sl, Mem.cell, Mem.row, wmA, t3, t9, t10, t11, sidx_at, hL, hLt, hle]
      refine SK_st (i := m1.next) (o := 0) (by simp [wkA, retV, stabOk, dC, ev, fillD, pickCells, putAt, bnd, slD, List.getElem?_cons_zero, List.getElem?_cons_succ, dR_sl]) (e := 36) (by simp -implicitDefEqProofs (disch := first | assumption | (simp only [wnA]; done) | (simp only [wnA]; omega) | omega | fail) [Mem.cell, Mem.row, wmA]; rfl) (by simp) (by simp [wkA, retV, stabOk, dC, ev, fillD, pickCells, putAt, bnd, slD, List.getElem?_cons_zero, List.getElem?_cons_succ, dR_sl, En.cells]) (by simp [wkA, retV, stabOk, dC, ev, fillD, pickCells, putAt, bnd, slD, List.getElem?_cons_zero, List.getElem?_cons_succ, dR_sl, En.cells, oneC]) ?_
      simp -implicitDefEqProofs (disch := first | assumption | (simp only [wnA]; done) | (simp only [wnA]; omega) | omega | fail) [wkA, retV, stabOk, dC, ev, fillD, pickCells, putAt, bnd, slD, List.getElem?_cons_zero, List.getElem?_cons_succ, dR_sl, Mem.cell, Mem.row, wmA, En.cells]
      have ho : Old m1 ((m1.push (.own [.string ⟨#[]⟩, .int .i64 0, .int .i64 0, .int .u32 0, .int .i64 0] 36)).set m1.next (.own [.string e.nm, .int .i64 e.a, .int .i64 e.s, .int .u32 e.p, .int .i64 e.w] 36)) := ((Old.refl m1).push _).set (Nat.le_refl _) _
      have hg : ((m1.push (.own [.string ⟨#[]⟩, .int .i64 0, .int .i64 0, .int .u32 0, .int .i64 0] 36)).set m1.next (.own [.string e.nm, .int .i64 e.a, .int .i64 e.s, .int .u32 e.p, .int .i64 e.w] 36)).get m1.next = .own e.cells 36 := by simp [En.cells]
      have hbn : m1.next < ((m1.push (.own [.string ⟨#[]⟩, .int .i64 0, .int .i64 0, .int .u32 0, .int .i64 0] 36)).set m1.next (.own [.string e.nm, .int .i64 e.a, .int .i64 e.s, .int .u32 e.p, .int .i64 e.w] 36)).next := by simp
      generalize (m1.push (.own [.string ⟨#[]⟩, .int .i64 0, .int .i64 0, .int .u32 0, .int .i64 0] 36)).set m1.next (.own [.string e.nm, .int .i64 e.a, .int .i64 e.s, .int .u32 e.p, .int .i64 e.w] 36) = M at *
      have hbM := hb.keep ho
      have hgM := hg
      simp only [En.cells] at hgM
      have wy : ∀ k, e.w = k → (k = 0 ∨ k = 1 ∨ k = 2 ∨ k = 3) → sidx 1 (.slice (some ⟨M.next, 0, none⟩) 4 1) (.int .i64 e.w) = some (.pointer (some ⟨M.next, k.toNat, none⟩)) := by
        rintro k rfl (h | h | h | h) <;> rw [h] <;> rfl
      by_cases hw : 0 ≤ e.w ∧ e.w ≤ 3
      · simp -implicitDefEqProofs (disch := first | assumption | (simp only [wnA]; done) | (simp only [wnA]; omega) | omega | fail) [wkA, retV, stabOk, dC, ev, fillD, pickCells, putAt, bnd, slD, List.getElem?_cons_zero, List.getElem?_cons_succ, dR_sl, Mem.cell, Mem.row, wmA, hgM, hw]
        refine c_Ways ?_
        have hk : e.w = 0 ∨ e.w = 1 ∨ e.w = 2 ∨ e.w = 3 := by omega
        have hne : m1.next ≠ M.next := by omega
        rcases hk with h | h | h | h
        all_goals
          have wy1 := wy _ h (by omega)
          simp -implicitDefEqProofs (disch := first | assumption | (simp only [wnA]; done) | (simp only [wnA]; omega) | omega | fail) [wkA, retV, stabOk, dC, ev, fillD, pickCells, putAt, bnd, slD, List.getElem?_cons_zero, List.getElem?_cons_succ, dR_sl, Mem.cell, Mem.row, wmA, hgM, wy1]
          refine w_line (b := m1.next) (i := m.next) (e := e) hp ht heo (hbM.keep ((Old.refl M).push _)) (by omega) (by rw [Mem.push_old _ _ hbn]; exact hg) (by simp; omega) (by simp [t3]) (by simp) (by simp [h]) fun ts' m' r3 r9 r10 r11 hb' => ?_
          simp at r3 r9 r10 r11
          simp -implicitDefEqProofs (disch := first | assumption | (simp only [wnA]; done) | (simp only [wnA]; omega) | omega | fail) [wkA, retV, stabOk, dC, ev, fillD, pickCells, putAt, bnd, slD, List.getElem?_cons_zero, List.getElem?_cons_succ, dR_sl, Mem.cell, Mem.row, wmA, r11, t11, hjw]
          exact hK (k - 1) _ _ (by omega) ⟨j + 1, by omega, by simp [r3, t3], by simp [r9, t9, hvv], by simp [r10, t10], by simp, by rw [hnx]; exact hb'⟩
      · have hwl : wayL e.w = wayL 0 := by
          unfold wayL
          rw [if_neg (by omega), if_neg (by omega), if_neg (by omega)]
          rfl
        have step : ∀ (R : Value → Prop), True := fun _ => trivial
        have key : (decide (e.w ≥ 0) && decide (e.w ≤ 3)) = false := by
          rw [Bool.and_eq_false_iff, decide_eq_false_iff_not, decide_eq_false_iff_not]; omega
        by_cases h0 : 0 ≤ e.w
        · have h3 : ¬ e.w ≤ 3 := by omega
          simp -implicitDefEqProofs (disch := first | assumption | (simp only [wnA]; done) | (simp only [wnA]; omega) | omega | fail) [wkA, retV, stabOk, dC, ev, fillD, pickCells, putAt, bnd, slD, List.getElem?_cons_zero, List.getElem?_cons_succ, dR_sl, Mem.cell, Mem.row, wmA, hgM, h0, h3]
          refine w_line (b := m1.next) (i := m.next) (e := e) hp ht heo hbM (by omega) hg hbn (by simp [t3]) (by simp) (by simp [hwl]; rfl) fun ts' m' r3 r9 r10 r11 hb' => ?_
          simp at r3 r9 r10 r11
          simp -implicitDefEqProofs (disch := first | assumption | (simp only [wnA]; done) | (simp only [wnA]; omega) | omega | fail) [wkA, retV, stabOk, dC, ev, fillD, pickCells, putAt, bnd, slD, List.getElem?_cons_zero, List.getElem?_cons_succ, dR_sl, Mem.cell, Mem.row, wmA, r11, t11, hjw]
          exact hK (k - 1) _ _ (by omega) ⟨j + 1, by omega, by simp [r3, t3], by simp [r9, t9, hvv], by simp [r10, t10], by simp, by rw [hnx]; exact hb'⟩
        · simp -implicitDefEqProofs (disch := first | assumption | (simp only [wnA]; done) | (simp only [wnA]; omega) | omega | fail) [wkA, retV, stabOk, dC, ev, fillD, pickCells, putAt, bnd, slD, List.getElem?_cons_zero, List.getElem?_cons_succ, dR_sl, Mem.cell, Mem.row, wmA, hgM, h0]
          refine w_line (b := m1.next) (i := m.next) (e := e) hp ht heo hbM (by omega) hg hbn (by simp [t3]) (by simp) (by simp [hwl]; rfl) fun ts' m' r3 r9 r10 r11 hb' => ?_
          simp at r3 r9 r10 r11
          simp -implicitDefEqProofs (disch := first | assumption | (simp only [wnA]; done) | (simp only [wnA]; omega) | omega | fail) [wkA, retV, stabOk, dC, ev, fillD, pickCells, putAt, bnd, slD, List.getElem?_cons_zero, List.getElem?_cons_succ, dR_sl, Mem.cell, Mem.row, wmA, r11, t11, hjw]
          exact hK (k - 1) _ _ (by omega) ⟨j + 1, by omega, by simp [r3, t3], by simp [r9, t9, hvv], by simp [r10, t10], by simp, by rw [hnx]; exact hb'⟩
    · have hjj : j = es.length := by omega
      subst hjj
      rw [List.take_length] at hb hlen
      simp -implicitDefEqProofs (disch := first | assumption | (simp only [wnA]; done) | (simp only [wnA]; omega) | omega | fail) [hjl, rc11_3, wkA, retV, stabOk, dC, ev, fillD, pickCells, putAt, bnd, slD, List.getElem?_cons_zero, List.getElem?_cons_succ, dR_sl, Mem.cell, Mem.row, wmA, t3]
      refine c_BString hb (by omega) fun m2 o2 => ?_
      simp -implicitDefEqProofs (disch := first | assumption | (simp only [wnA]; done) | (simp only [wnA]; omega) | omega | fail) [wkA, retV, stabOk, dC, ev, fillD, pickCells, putAt, bnd, slD, List.getElem?_cons_zero, List.getElem?_cons_succ, dR_sl, Mem.cell, Mem.row, wmA]
      exact hq m2 o2
end Go.Proofs.YtgfkjldohilmkaaDoor.Ab
