/- Numbers as texts: in base 10 by the library's shelf, in a base that is a power of two by the walk. -/
import Derived.Test.YtgfkjldohilmkaaDoorAbz
import Derived.Test.YtgfkjldohilmkaaDoorAbn1
import Derived.Test.YtgfkjldohilmkaaDoorShelf
import Derived.Lib.AppendIntMem
set_option linter.unusedVariables false
set_option linter.unusedSimpArgs false
namespace Go.Proofs.YtgfkjldohilmkaaDoor.Ab
open Go Go.RowKit
set_option maxHeartbeats 4000000
set_option maxRecDepth 100000

/-- The table of powers of ten lies in the world. -/
abbrev Ten (w : World) : Prop := Lib.TabIs Tryd.prog w "internal/strconv.uint64pow10" .u64 Lib.pow10Tab
theorem tab_at {P : Program} {w0 w : World} {G : Loc} {m : Mem} {name : String} {k : IntKind} {zs : List Int} (h : Lib.TabIs P w0 name k zs) (hs : St P w0 G m w) : Lib.TabIs P w name k zs := by
  unfold Lib.TabIs World.var? at h ⊢
  cases hg : P.globalNamed name with
  | none => rw [hg] at h; simp at h
  | some g =>
    rw [hg] at h
    simp only [Option.bind_some] at h ⊢
    have hlt : g < w0.heap.size := by
      rcases Nat.lt_or_ge g w0.heap.size with h' | h'
      · exact h'
      · rw [Array.getElem?_eq_none h'] at h; cases h
    rw [hs.below.block g hlt]; exact h

theorem tab_mem {P : Program} {W : World} {l : List (String × DataW Unit)} {name : String} {k : IntKind} {zs : List Int} {g : Nat} {t e : TypeId} {n : Nat} (h : laidMet P l W) (hm : (name, Lib.tabData k zs) ∈ l)
    (hg : P.globalNamed name = some g) (hty : (P.globals[g]?).map (·.type) = some t) (ht : P.underlying t = some (.array n e)) (he : P.underlying e = some (.int k)) (hce : P.cellsOf e = 1) (hct : P.cellsOf t = n) : Lib.TabIs P W name k zs := by
  obtain ⟨ps, hv, _⟩ := h
  obtain ⟨g', t', cs, fuel, p, h1, h2, h3, h4⟩ := laid_mem hv hm
  obtain rfl := Option.some.inj (hg.symm.trans h1)
  obtain rfl := Option.some.inj (hty.symm.trans h2)
  have hcs := Lib.cells_of_tab ht he hce hct h4
  unfold Lib.TabIs
  rw [h3]
  congr 1
  exact Array.ext' (by simpa using hcs)
theorem ten_of {W : World} {l : List (String × DataW Unit)} (h : laidMet Tryd.prog l W) (hm : ("internal/strconv.uint64pow10", Lib.tabData .u64 z10) ∈ l) : Ten W := by
  have e : Lib.pow10Tab = z10 := by kernel_rfl
  unfold Ten
  rw [e]
  exact tab_mem (g := 1) h hm (by kernel_rfl) (by kernel_rfl) Tryd.underlying135 Tryd.underlying68 (by kernel_rfl) (by kernel_rfl)

/-- A contract of plain values that only grows the world. -/
theorem c_calls {P : Program} {w0 : World} {m : Mem} {f : FuncId} {args : List Value} {v : Value} {Q : Value → Mem → Prop} (hcall : callOk P f = true) (ha : args.all (plainV 6) = true) (hv : plainV 6 v = true)
    (h : ∀ (G : Loc) (w : World), St P w0 G m w → Calls P f args.toArray w fun e w' => e = .returned v ∧ Below w.heap.size w w') (hq : Q v m) : AbC P w0 f args m Q := by
  intro G w args' hs hargs
  have ha' : ∀ u ∈ args, plainV 6 u = true := by simpa [List.all_eq_true] using ha
  have he : args' = args := VRs.plain_eq hargs fun u hu u' hr => VR.plain_eq 6 u u' (ha' u hu) hr
  subst he
  rw [run_callFunc_enter hcall]
  show Calls _ _ _ _ _
  refine (h G w hs).mono ?_
  rintro e w' ⟨rfl, hb⟩
  exact ⟨v, rfl, G, v, m, Loc.le_refl G, VR.plain 6 v hv, hs.grown hb, hq⟩

/-- A number as a text. -/
def numS (B : Nat) (i : Int) : List UInt8 := sgn (decide (i < 0)) ++ digs B i.natAbs
theorem dec_digs : ∀ u, Lib.decDigits u = digs 10 u := by
  intro u
  induction u using Nat.strongRecOn with
  | _ u ih =>
    rw [Lib.decDigits]
    split
    · rename_i h
      rw [digs_lt h]; simp [digC, h]
    · rename_i h
      rw [digs_ge (by omega) (by omega), ih (u / 10) (by omega)]
      simp [digC, Nat.mod_lt]
theorem itoa_numS (n : Int) : Lib.itoa n = numS 10 n := by
  unfold Lib.itoa numS sgn
  by_cases h : n < 0
  · simp [h, dec_digs]
  · have : n.toNat = n.natAbs := by omega
    simp [h, dec_digs, this]

theorem c_fmt10 {w0 : World} {m : Mem} {n : Int} {Q : Value → Mem → Prop} (ht : Ten w0) (hn : -9223372036854775808 ≤ n ∧ n ≤ 9223372036854775807) (hq : Q (.string ⟨⟨numS 10 n⟩⟩) m) :
    AbC Tryd.prog w0 37 [.int .i64 n, .int .i64 10] m Q := by
  refine c_calls (v := .string ⟨⟨numS 10 n⟩⟩) (by kernel_rfl) rfl rfl (fun G w hs => ?_) hq
  refine (Tryd.internal_strconv_FormatInt_10 n hn.1 hn.2 w (tab_at ht hs)).mono ?_
  rintro e w' ⟨rfl, k, os, rfl⟩
  exact ⟨by rw [itoa_numS], Lib.below_grow _ w (Nat.le_refl _) k os⟩

theorem c_fmtP {w0 : World} {m : Mem} {B k : Nat} {i : Int} {Q : Value → Mem → Prop} (hp : Part L0 m) (hB : B = 2 ^ k) (hk : 3 ≤ k ∧ k ≤ 5) (h10 : B ≠ 10) (hi : -9223372036854775808 ≤ i ∧ i ≤ 9223372036854775807)
    (h1 : outIs (.bool true) (callE tab (xCall xs) Tryd.prog 50 65 [.int .i64 (B : Int)] L0) = true)
    (h2 : outIs (.int .i64 (k : Int)) (callE tab (xCall xs) Tryd.prog 50 66 [.int .u64 (B : Int)] L0) = true)
    (hq : ∀ m', Old m m' → Q (.string ⟨⟨numS B i⟩⟩) m') : AbC Tryd.prog w0 37 [.int .i64 i, .int .i64 (B : Int)] m Q := by
  refine AbC_fn ok37 (by simp) ?_
  have f2 : (B : Int) ≠ 10 := by omega
  simp -implicitDefEqProofs (disch := first | assumption | (simp only [wnA]; done) | (simp only [wnA]; omega) | omega | fail) [rc37, ro37, wkA, retV, stabOk, dC, ev, fillD, pickCells, putAt, bnd, slD, List.getElem?_cons_zero, List.getElem?_cons_succ, dR.eq_20, Mem.cell, Mem.row, wmA, beqF f2, rc37_3]
  refine c_fmtBits (k := k) (a := i.natAbs) hp hB hk h10 (by omega) ?_ h1 h2 fun m' ho => ?_
  · by_cases hn : i < 0
    · simp only [hn, decide_true, if_true]
      congr 1; omega
    · simp only [hn, decide_false, Bool.false_eq_true, if_false]
      rw [IntWalk.u64_in _ (by omega)]; omega
  · simp -implicitDefEqProofs (disch := first | assumption | (simp only [wnA]; done) | (simp only [wnA]; omega) | omega | fail) [wkA, retV, stabOk, dC, ev, fillD, pickCells, putAt, bnd, slD, List.getElem?_cons_zero, List.getElem?_cons_succ, dR.eq_20, Mem.cell, Mem.row, wmA]
    exact hq m' ho

theorem pow8 : outIs (.bool true) (callE tab (xCall xs) Tryd.prog 50 65 [.int .i64 ((8 : Nat) : Int)] L0) = true := by kernel_rfl
theorem tz8 : outIs (.int .i64 ((3 : Nat) : Int)) (callE tab (xCall xs) Tryd.prog 50 66 [.int .u64 ((8 : Nat) : Int)] L0) = true := by kernel_rfl
theorem pow16 : outIs (.bool true) (callE tab (xCall xs) Tryd.prog 50 65 [.int .i64 ((16 : Nat) : Int)] L0) = true := by kernel_rfl
theorem tz16 : outIs (.int .i64 ((4 : Nat) : Int)) (callE tab (xCall xs) Tryd.prog 50 66 [.int .u64 ((16 : Nat) : Int)] L0) = true := by kernel_rfl

/-- strconv.FormatInt at 8, 10, 16. -/
theorem c_FormatInt {w0 : World} {m : Mem} {B : Nat} {i : Int} {Q : Value → Mem → Prop} (hp : Part L0 m) (ht : Ten w0) (hB : B = 8 ∨ B = 10 ∨ B = 16) (hi : -9223372036854775808 ≤ i ∧ i ≤ 9223372036854775807)
    (hq : ∀ m', Old m m' → Q (.string ⟨⟨numS B i⟩⟩) m') : AbC Tryd.prog w0 25 [.int .i64 i, .int .i64 (B : Int)] m Q := by
  refine AbC_fn ok25 (by simp) ?_
  simp -implicitDefEqProofs (disch := first | assumption | (simp only [wnA]; done) | (simp only [wnA]; omega) | omega | fail) [rc25, ro25, wkA, retV, stabOk, dC, ev, fillD, pickCells, putAt, bnd, slD, List.getElem?_cons_zero, List.getElem?_cons_succ, dR.eq_20, Mem.cell, Mem.row, wmA]
  have key : AbC Tryd.prog w0 37 [.int .i64 i, .int .i64 (B : Int)] m fun v m' => v = .string ⟨⟨numS B i⟩⟩ ∧ Old m m' := by
    rcases hB with rfl | rfl | rfl
    · exact c_fmtP hp (k := 3) rfl (by omega) (by omega) hi pow8 tz8 fun m' ho => ⟨rfl, ho⟩
    · exact c_fmt10 ht hi ⟨rfl, Old.refl m⟩
    · exact c_fmtP hp (k := 4) rfl (by omega) (by omega) hi pow16 tz16 fun m' ho => ⟨rfl, ho⟩
  refine key.mono ?_
  rintro v m' ⟨rfl, ho⟩
  simp -implicitDefEqProofs (disch := first | assumption | (simp only [wnA]; done) | (simp only [wnA]; omega) | omega | fail) [wkA, retV, stabOk, dC, ev, fillD, pickCells, putAt, bnd, slD, List.getElem?_cons_zero, List.getElem?_cons_succ, dR.eq_20, Mem.cell, Mem.row, wmA]
  exact hq m' ho
theorem c_Itoa {w0 : World} {m : Mem} {i : Int} {Q : Value → Mem → Prop} (ht : Ten w0) (hi : -9223372036854775808 ≤ i ∧ i ≤ 9223372036854775807) (hq : Q (.string ⟨⟨numS 10 i⟩⟩) m) : AbC Tryd.prog w0 26 [.int .i64 i] m Q := by
  refine AbC_fn ok26 (by simp) ?_
  simp -implicitDefEqProofs (disch := first | assumption | (simp only [wnA]; done) | (simp only [wnA]; omega) | omega | fail) [rc26, ro26, wkA, retV, stabOk, dC, ev, fillD, pickCells, putAt, bnd, slD, List.getElem?_cons_zero, List.getElem?_cons_succ, dR.eq_20, Mem.cell, Mem.row, wmA]
  refine AbC_fn ok38 (by simp) ?_
  simp -implicitDefEqProofs (disch := first | assumption | (simp only [wnA]; done) | (simp only [wnA]; omega) | omega | fail) [rc38, ro38, wkA, retV, stabOk, dC, ev, fillD, pickCells, putAt, bnd, slD, List.getElem?_cons_zero, List.getElem?_cons_succ, dR.eq_20, Mem.cell, Mem.row, wmA]
  refine c_fmt10 ht hi ?_
  simp -implicitDefEqProofs (disch := first | assumption | (simp only [wnA]; done) | (simp only [wnA]; omega) | omega | fail) [wkA, retV, stabOk, dC, ev, fillD, pickCells, putAt, bnd, slD, List.getElem?_cons_zero, List.getElem?_cons_succ, dR.eq_20, Mem.cell, Mem.row, wmA]
  exact hq

/-- How long a number's text is. -/
theorem numS_len {B : Nat} (hB : 2 ≤ B) {i : Int} {L : Nat} (hi : i.natAbs < B ^ L) (hL : 1 ≤ L) : (numS B i).length ≤ L + 1 := by
  have := digs_len hB L _ hi
  unfold numS sgn
  split <;> simp <;> omega
theorem numS_pos {B : Nat} {i : Int} : 1 ≤ (numS B i).length := by
  have := digs_pos B i.natAbs
  unfold numS
  simp; omega
end Go.Proofs.YtgfkjldohilmkaaDoor.Ab
