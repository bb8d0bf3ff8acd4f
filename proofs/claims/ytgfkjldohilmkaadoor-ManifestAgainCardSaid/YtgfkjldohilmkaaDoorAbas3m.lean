/- A fault's number and place (errors.As) over the abstract memory. -/
import Derived.Test.YtgfkjldohilmkaaDoorAbz
import Derived.Test.YtgfkjldohilmkaaDoorAbtkAm
import Derived.Test.YtgfkjldohilmkaaDoorAbasA
set_option linter.unusedVariables false
set_option linter.unusedSimpArgs false
namespace Go.Proofs.YtgfkjldohilmkaaDoor.Ab
open Go Go.RowKit
set_option maxHeartbeats 1000000
set_option maxRecDepth 100000

/-- The library's type of an error lies in the world. -/
abbrev ErrT (w : World) : Prop := w.cell? ⟨0, 0, none⟩ = some (As.rt 28)
theorem errT_at {w0 w : World} {G : Loc} {m : Mem} (h : ErrT w0) (hs : St Tryd.prog w0 G m w) : ErrT w := by
  have hlt : 0 < w0.heap.size := by
    rcases Nat.lt_or_ge 0 w0.heap.size with h' | h'
    · exact h'
    · simp [ErrT, World.cell?, Array.getElem?_eq_none h'] at h
  unfold ErrT World.cell? at h ⊢
  rw [hs.below.block 0 hlt]; exact h
theorem c_asPlace {w0 : World} {m : Mem} {i : Nat} {n a : Int} {c0 c1 : Value} {Q : Value → Mem → Prop} (hT : ErrT w0) (hg : m.get i = .own [c0, c1] 84) (hq : Q (.bool true) (m.set i (.own [.int .i64 n, .int .i64 a] 84))) :
    AbC Tryd.prog w0 32 [.iface 84 (.agg ⟨[.int .i64 n, .int .i64 a]⟩), .iface 85 (.pointer (some ⟨i, 0, none⟩))] m Q := by
  intro G w args' hs hargs
  cases hargs with
  | cons _ v1 _ l1 h1 hargs =>
  cases hargs with
  | cons _ v2 _ l2 h2 hargs =>
  cases hargs
  have e1 : v1 = .iface 84 (.agg ⟨[.int .i64 n, .int .i64 a]⟩) := VR.plain_eq 6 _ _ rfl h1
  subst e1
  cases h2 with
  | iface _ _ v2 h2 =>
  cases h2 with
  | ptr _ _ B b S hG =>
  rw [run_callFunc_enter (by kernel_rfl)]
  show Calls _ _ _ _ _
  have hlt : B < w.heap.size := hs.lim i B b S (by rw [hg]; simp) hG
  have hbel : Below w.heap.size w ((As.laidP w ⟨B, b + 0, none⟩).alloc (.cells #[.int .i64 n, .int .i64 a] 84)) :=
    ((((Below.refl _ w).alloc (by simp) _).alloc (by simp) _).alloc (by simp; omega) _).alloc (by simp [As.laidP]; omega) _
  have hs4 := hs.grown hbel
  obtain ⟨w', h3, h4⟩ := snd_put (o := 0) (vs := [.int .i64 n, .int .i64 a]) (vs' := [.int .i64 n, .int .i64 a]) hs4 hG hg (by simp) (.cons _ _ _ _ (.int _ _) (.cons _ _ _ _ (.int _ _) .nil)) rfl
  refine (As.as_place n a ⟨B, b + 0, none⟩ w w' (errT_at hT hs) hlt h3).mono ?_
  rintro e w2 ⟨rfl, rfl⟩
  exact ⟨_, rfl, G, .bool true, _, Loc.le_refl G, .bool true, h4, hq⟩
theorem c_asNumber {w0 : World} {m : Mem} {i : Nat} {n a : Int} {c0 : Value} {Q : Value → Mem → Prop} (hT : ErrT w0) (hg : m.get i = .own [c0] 44) (hq : Q (.bool true) (m.set i (.own [.int .i64 n] 44))) :
    AbC Tryd.prog w0 32 [.iface 84 (.agg ⟨[.int .i64 n, .int .i64 a]⟩), .iface 82 (.pointer (some ⟨i, 0, none⟩))] m Q := by
  intro G w args' hs hargs
  cases hargs with
  | cons _ v1 _ l1 h1 hargs =>
  cases hargs with
  | cons _ v2 _ l2 h2 hargs =>
  cases hargs
  have e1 : v1 = .iface 84 (.agg ⟨[.int .i64 n, .int .i64 a]⟩) := VR.plain_eq 6 _ _ rfl h1
  subst e1
  cases h2 with
  | iface _ _ v2 h2 =>
  cases h2 with
  | ptr _ _ B b S hG =>
  rw [run_callFunc_enter (by kernel_rfl)]
  show Calls _ _ _ _ _
  have hlt : B < w.heap.size := hs.lim i B b S (by rw [hg]; simp) hG
  have hbel : Below w.heap.size w (((As.laidQ w ⟨B, b + 0, none⟩).alloc (.cells #[.int .i64 n, .int .i64 a] 84)).alloc (.cells #[.int .i64 n] 44)) :=
    (((((Below.refl _ w).alloc (by simp) _).alloc (by simp) _).alloc (by simp; omega) _).alloc (by simp [As.laidQ]; omega) _).alloc (by simp [As.laidQ]; omega) _
  have hs4 := hs.grown hbel
  obtain ⟨w', h3, h4⟩ := snd_put (o := 0) (vs := [.int .i64 n]) (vs' := [.int .i64 n]) hs4 hG hg (by simp) (.cons _ _ _ _ (.int _ _) .nil) rfl
  refine (As.as_number n a ⟨B, b + 0, none⟩ w w' (errT_at hT hs) hlt h3).mono ?_
  rintro e w2 ⟨rfl, rfl⟩
  exact ⟨_, rfl, G, .bool true, _, Loc.le_refl G, .bool true, h4, hq⟩

theorem c_Place {w0 : World} {m : Mem} {n a : Nat} {Q : Value → Mem → Prop} (hT : ErrT w0) (hq : ∀ m', Old m m' → Q (.int .i64 (a : Int)) m') : AbC Tryd.prog w0 19 [faultV n a] m Q := by
  refine AbC_fn ok19 (by simp) ?_
  simp -implicitDefEqProofs (disch := first | assumption | (simp only [wnA]; done) | (simp only [wnA]; omega) | omega | fail) [rc19, ro19, wkA, retV, stabOk, dC, ev, fillD, pickCells, putAt, bnd, slD, List.getElem?_cons_zero, List.getElem?_cons_succ, dR.eq_20, Mem.cell, Mem.row, wmA, faultV]
  refine c_asPlace hT (c0 := .int .i64 0) (c1 := .int .i64 0) (by simp) ?_
  simp -implicitDefEqProofs (disch := first | assumption | (simp only [wnA]; done) | (simp only [wnA]; omega) | omega | fail) [wkA, retV, stabOk, dC, ev, fillD, pickCells, putAt, bnd, slD, List.getElem?_cons_zero, List.getElem?_cons_succ, dR.eq_20, Mem.cell, Mem.row, wmA]
  exact hq _ (((Old.refl m).push _).set (Nat.le_refl _) _)
theorem c_Number {w0 : World} {m : Mem} {n a : Nat} {Q : Value → Mem → Prop} (hT : ErrT w0) (hq : ∀ m', Old m m' → Q (.int .i64 (n : Int)) m') : AbC Tryd.prog w0 18 [faultV n a] m Q := by
  refine AbC_fn ok18 (by simp) ?_
  simp -implicitDefEqProofs (disch := first | assumption | (simp only [wnA]; done) | (simp only [wnA]; omega) | omega | fail) [rc18, ro18, wkA, retV, stabOk, dC, ev, fillD, pickCells, putAt, bnd, slD, List.getElem?_cons_zero, List.getElem?_cons_succ, dR.eq_20, Mem.cell, Mem.row, wmA, faultV]
  refine c_asNumber hT (c0 := .int .i64 0) (by simp) ?_
  simp -implicitDefEqProofs (disch := first | assumption | (simp only [wnA]; done) | (simp only [wnA]; omega) | omega | fail) [wkA, retV, stabOk, dC, ev, fillD, pickCells, putAt, bnd, slD, List.getElem?_cons_zero, List.getElem?_cons_succ, dR.eq_20, Mem.cell, Mem.row, wmA]
  exact hq _ (((Old.refl m).push _).set (Nat.le_refl _) _)
theorem et : Tryd.prog.globalNamed "errors.errorType" = some 0 := by kernel_rfl
theorem rtN : (Tryd.prog.cutTypes.find? (·.1 == "internal/reflectlite.rtype")).map (·.2) = some 120 := by kernel_rfl
theorem oneRow : ((List.range 185).filter fun t => Tryd.prog.rowNamed t [101, 114, 114, 111, 114]) = [28] := by kernel_rfl
theorem tsize : Tryd.prog.types.size = 185 := by kernel_rfl
/-- What the rows lay of errors.errorType. -/
theorem errT_of {l : List (String × DataW Unit)} {W : World} (h : handlesMet Tryd.prog l W) (hm : ("errors.errorType", DataW.iface "internal/reflectlite.rtype" (.agg [.ptr (.lit (.string [101, 114, 114, 111, 114]))])) ∈ l) : ErrT W := by
  obtain ⟨name, u, ty, e1, e2, e3, e4, e5⟩ := h _ hm
  have en : name = [101, 114, 114, 111, 114] := (Option.some.inj e1).symm
  subst en
  obtain rfl := Option.some.inj (rtN.symm.trans e2)
  have hm : ty ∈ (List.range 185).filter fun t => Tryd.prog.rowNamed t [101, 114, 114, 111, 114] := List.mem_filter.2 ⟨List.mem_range.2 (by rw [← tsize]; exact e3), e4⟩
  rw [oneRow] at hm
  obtain rfl := List.mem_singleton.1 hm
  have hh : typeHandle Tryd.prog 28 = .pointer (some ⟨7, 28, none⟩) := by kernel_rfl
  rw [hh] at e5
  have := World.var?_cell et e5 0
  show W.cell? ⟨0, 0, none⟩ = _
  rw [this]; rfl
end Go.Proofs.YtgfkjldohilmkaaDoor.Ab
