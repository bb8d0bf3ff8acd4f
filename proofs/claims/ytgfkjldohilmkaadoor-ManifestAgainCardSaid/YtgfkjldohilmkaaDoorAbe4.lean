/- Arguments of a call, of any kind, typed. -/
import Derived.Test.YtgfkjldohilmkaaDoorAbe3
set_option linter.unusedVariables false
set_option linter.unusedSimpArgs false
namespace Go.Proofs.YtgfkjldohilmkaaDoor.Ab
open Go Go.RowKit

section
variable {P : Program} {W : World} {H : Type} {enc : TypeId × Value → H}
/-- A struct, laid into the memory. -/
theorem arg_agg {k : Nat} {t : TypeId} {s : Shp} {c : Array Value} {d : DataW H} {p : List MemPlace} (hs : shpOf P k t = some s) (h : DataW.Trod enc P W 0 (fun _ => true) true t (.agg c) d p) {G : Loc} {m : Mem} (hst : St P W G m W) :
    ∃ G' m' cs' td, Grow G m G' m' ∧ St P W G' m' W ∧ VR G' (.agg ⟨cs'⟩) (.agg c) ∧ AbsT m' td cs' ∧ Fits s td ∧ td.bulk ≤ Rows.uptoBulk d := by
  obtain ⟨fuel, hf⟩ := h
  obtain ⟨G', m', cs', td, h1, h2, h3, h4, h5, h6⟩ := open_T fuel hs hf G m hst
  refine ⟨G', m', cs', td, h1, h2, ?_, h4, h5, h6⟩
  have h3' : VRs G' cs' c.toList := h3
  have := VR.agg cs' c.toList h3'
  simpa using this
end

section
variable {m : Mem}
theorem absT_int {k : IntKind} {td : TD} {cs : List Value} (h : AbsT m td cs) (hf : Fits (.int k) td) : ∃ n, cs = [.int k n] ∧ td = .int k n ∧ (Lit.int k n).wf = true := by
  cases h <;> simp only [Fits] at hf
  obtain ⟨rfl, h⟩ := hf
  exact ⟨_, rfl, rfl, h⟩
theorem absT_bool {td : TD} {cs : List Value} (h : AbsT m td cs) (hf : Fits .bool td) : ∃ b, cs = [.bool b] ∧ td = .bool b := by
  cases h <;> simp only [Fits] at hf
  exact ⟨_, rfl, rfl⟩
theorem absT_str {td : TD} {cs : List Value} (h : AbsT m td cs) (hf : Fits .str td) : ∃ s, cs = [.string s] ∧ td = .str s ∧ s.size ≤ maxLen := by
  cases h <;> simp only [Fits] at hf
  exact ⟨_, rfl, rfl, hf⟩
theorem absT_recd {ss : List Shp} {td : TD} {cs : List Value} (h : AbsT m td cs) (hf : Fits (.recd ss) td) : ∃ l, td = .recd l ∧ AbsTs m l cs ∧ FitsL ss l := by
  cases h <;> simp only [Fits] at hf
  rename_i l k
  exact ⟨l, rfl, k, hf⟩
theorem absTs_cons {ss : List Shp} {s : Shp} {l : List TD} {cs : List Value} (h : AbsTs m l cs) (hf : FitsL (s :: ss) l) : ∃ d r c e, l = d :: r ∧ cs = c ++ e ∧ AbsT m d c ∧ Fits s d ∧ AbsTs m r e ∧ FitsL ss r := by
  cases h with
  | nil => simp [FitsL] at hf
  | cons d c l cs h k =>
    simp only [FitsL] at hf
    exact ⟨d, l, c, cs, rfl, rfl, h, hf.1, k, hf.2⟩
theorem absTs_nil {l : List TD} {cs : List Value} (h : AbsTs m l cs) (hf : FitsL [] l) : l = [] ∧ cs = [] := by
  cases h with
  | nil => exact ⟨rfl, rfl⟩
  | cons => simp [FitsL] at hf
theorem AbsT.one {td : TD} {cs : List Value} {s : Shp} (h : AbsT m td cs) (hf : Fits s td) (hs : ∀ ss, s ≠ .recd ss) : ∃ v, cs = [v] := by
  cases h with
  | recd l cs k => cases s <;> simp only [Fits] at hf; exact (hs _ rfl).elim
  | _ => exact ⟨_, rfl⟩
end

section
variable {a b : Bool} {k : IntKind} {n n' : Int} {s s' : ByteArray}
theorem dEq_bool : dEq .bool (.bool a) (.bool b) = some (a == b) := rfl
theorem dEq_int : dEq .int (.int k n) (.int k n') = some (n == n') := by simp [dEq]
theorem dEq_str : dEq .str (.string s) (.string s') = some (s.data.toList == s'.data.toList) := rfl
theorem dEq_ptr0 {x : Option Addr} : dEq .ptr (.pointer none) (.pointer x) = some x.isNone := rfl
theorem dEq_ptr1 {x : Addr} : dEq .ptr (.pointer (some x)) (.pointer none) = some false := rfl
theorem dEq_ptr2 {x : Addr} : dEq .ptr (.pointer (some x)) (.pointer (some x)) = some true := by simp [dEq]
theorem dEq_nil {ts : List TypeId} : dEq (.iface ts) .nilIface .nilIface = some true := rfl
theorem dEq_niln {ts : List TypeId} {t : TypeId} {v : Value} : dEq (.iface ts) .nilIface (.iface t v) = some false := rfl
theorem dEq_nnil {ts : List TypeId} {t : TypeId} {v : Value} : dEq (.iface ts) (.iface t v) .nilIface = some false := rfl
theorem dEq_recd {ps : List (Nat × Nat × EqT)} {x y : List Value} : dEq (.recd ps) (.agg ⟨x⟩) (.agg ⟨y⟩) = dEqs ps x y := rfl
end

/-- Part and the memory behind. -/
theorem Grow.part {L : LM} {G G' : Loc} {m m' : Mem} (h : Part L m) (hg : Grow G m G' m') : Part L m' := h.grow hg.2.1 hg.2.2
end Go.Proofs.YtgfkjldohilmkaaDoor.Ab
