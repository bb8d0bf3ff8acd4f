/- What the row's listed variables hold, laid into the memory ahead of the call. -/
import Derived.Test.YtgfkjldohilmkaaDoorAbe2
import Derived.Test.YtgfkjldohilmkaaDoorAb20
import Derived.Lib.LaidTab
set_option linter.unusedVariables false
set_option linter.unusedSimpArgs false
namespace Go.Proofs.YtgfkjldohilmkaaDoor.Ab
open Go Go.RowKit

section
variable {P : Program}

theorem laid_mem {W : World} : ∀ {l : List (String × DataW Unit)} {ps : List MemPlace}, DataW.LaidVars P W l ps → ∀ {name : String} {d : DataW Unit}, (name, d) ∈ l →
    ∃ g t cs fuel p, P.globalNamed name = some g ∧ (P.globals[g]?).map (·.type) = some t ∧ W.var? P name = some cs ∧ DataW.trod (fun _ => ()) P W 0 (fun _ => true) false fuel t cs.toList = some (d, p)
  | [], _, _, _, _, h => by cases h
  | (n, d) :: r, ps, h, name, d', hm => by
    obtain ⟨g, t, cs, fuel, p, q, h1, h2, h3, h4, h5, _⟩ := h
    rcases List.mem_cons.1 hm with e | hm
    · cases e
      exact ⟨g, t, cs, fuel, p, h1, h2, h3, h4⟩
    · exact laid_mem h5 hm

/-- A listed table of numbers. -/
theorem laid_tab {W : World} {l : List (String × DataW Unit)} {name : String} {k : IntKind} {zs : List Int} {g : Nat} {t e : TypeId} {n : Nat} (h : laidMet P l W) (hm : (name, Lib.tabData k zs) ∈ l)
    (hg : P.globalNamed name = some g) (hty : (P.globals[g]?).map (·.type) = some t) (ht : P.underlying t = some (.array n e)) (he : P.underlying e = some (.int k)) (hce : P.cellsOf e = 1) (hct : P.cellsOf t = n) :
    ∀ (j : Nat) (v : Value), (zs.map fun z => Value.int k z)[j]? = some v → W.cell? ⟨g, j, none⟩ = some v := by
  obtain ⟨ps, hv, _⟩ := h
  obtain ⟨g', t', cs, fuel, p, h1, h2, h3, h4⟩ := laid_mem hv hm
  obtain rfl := Option.some.inj (hg.symm.trans h1)
  obtain rfl := Option.some.inj (hty.symm.trans h2)
  have hcs := Lib.cells_of_tab ht he hce hct h4
  intro j v hj
  rw [World.var?_cell hg h3 j, ← hcs] at *
  simpa using hj

/-- A memory in which the listed variables lie. -/
structure LaidIn (P : Program) (W : World) (gs : List (Nat × List Value)) : Prop where
  cell : ∀ x ∈ gs, ∀ (j : Nat) (v : Value), x.2[j]? = some v → W.cell? ⟨x.1, j, none⟩ = some v
def laidB (P : Program) (gs : List (Nat × List Value)) : Bool := gs.all fun x => decide (x.1 < P.globals.size) && !x.2.isEmpty && x.2.all (plainV 6)
def entOf (gs : List (Nat × List Value)) (i : Nat) : Ent := match gs.lookup i with
  | some cs => .ro cs
  | none => .dead
theorem lookup_mem {gs : List (Nat × List Value)} {i : Nat} {cs : List Value} (h : gs.lookup i = some cs) : (i, cs) ∈ gs := by
  induction gs with
  | nil => cases h
  | cons x r ih =>
    obtain ⟨g, c⟩ := x
    rw [List.lookup_cons] at h
    split at h
    · rename_i e
      simp at h; subst h
      have e' : i = g := by simpa using e
      rw [e']
      simp
    · simp [ih h]
theorem St.laid {W : World} {L : LM} {gs : List (Nat × List Value)} (hn : P.globals.size = L.n) (hL : ∀ i, L.get i = entOf gs i) (hb : laidB P gs = true) (hg : LaidIn P W gs) : St P W (G0 P) (toMem L) W where
  below := Below.refl _ _
  dom := fun i x h => by
    unfold G0 at h
    split at h
    · show i < L.n; omega
    · cases h
  lim := fun i B b S hd hx => by
    have hd' : L.get i ≠ .dead := hd
    rw [hL i] at hd'
    unfold entOf at hd'
    split at hd'
    case h_2 => exact (hd' rfl).elim
    rename_i cs hc
    have hm := lookup_mem hc
    simp only [laidB, List.all_eq_true, Bool.and_eq_true, decide_eq_true_eq, Bool.not_eq_true'] at hb
    obtain ⟨⟨h1, h2⟩, h3⟩ := hb _ hm
    unfold G0 at hx
    rw [if_pos h1] at hx
    cases hx
    cases cs with
    | nil => cases h2
    | cons v cs =>
      have := hg.cell _ hm 0 v rfl
      unfold World.cell? at this
      split at this
      · rename_i c t f hh
        exact (Array.getElem?_eq_some_iff.1 hh).1
      · cases this
  ent := fun i hd => by
    have hd' : L.get i ≠ .dead := hd
    show ∃ B b S, G0 P i = some (B, b, S) ∧ ER W W (G0 P) B b S (L.get i)
    rw [hL i] at hd' ⊢
    unfold entOf at hd' ⊢
    split at hd'
    case h_2 => exact (hd' rfl).elim
    rename_i cs hc
    have hm := lookup_mem hc
    have hb0 := hb
    simp only [laidB, List.all_eq_true, Bool.and_eq_true, decide_eq_true_eq, Bool.not_eq_true'] at hb
    obtain ⟨⟨h1, h2⟩, h3⟩ := hb _ hm
    refine ⟨i, 0, 0, by simp [G0, h1], ?_, fun j v hj => ⟨v, ?_, VR.plain 6 v (h3 v (List.mem_of_getElem? hj))⟩⟩
    · cases cs with
      | nil => cases h2
      | cons v cs =>
        have := hg.cell _ hm 0 v rfl
        unfold World.cell? at this
        split at this
        · rename_i c t f hh
          exact (Array.getElem?_eq_some_iff.1 hh).1
        · cases this
    · rw [Nat.zero_add]
      exact hg.cell _ hm j v hj
  inj := fun i j B x y hi => by
    have hi' : (L.get i).mine = true := hi
    rw [hL i] at hi'
    unfold entOf at hi'
    split at hi' <;> cases hi'
  glob := fun g hg => ⟨0, by simp [G0, hg]⟩
  ali := fun i cs e B b S hi => by
    have hi' : L.get i = .own cs e := hi
    rw [hL i] at hi'
    unfold entOf at hi'
    split at hi' <;> cases hi'

noncomputable def partB (L : LM) : Bool := (List.range L.n).all fun i => match L.get i with
  | .dead => true
  | .ro cs => cs.all (ltV L.n 6)
  | _ => false
theorem Part.of {L : LM} {m : Mem} (hb : partB L = true) (hn : L.n ≤ m.next) (hk : ∀ i, i < L.n → m.get i = L.get i) : Part L m := by
  refine ⟨hn, fun i => ?_⟩
  by_cases hi : i < L.n
  · simp only [partB, List.all_eq_true, List.mem_range] at hb
    have := hb i hi
    split at this
    · rename_i e; exact .inl e
    · rename_i cs e
      exact .inr ⟨cs, e, by rw [hk i hi, e]; rfl, this⟩
    · cases this
  · exact .inl (LM.get_ge hi)
theorem Part.grow {L : LM} {m m' : Mem} (h : Part L m) (hn : m.next ≤ m'.next) (hk : ∀ i, i < m.next → m'.get i = m.get i) : Part L m' := by
  refine ⟨Nat.le_trans h.1 hn, fun i => ?_⟩
  rcases h.2 i with h1 | ⟨cs, h1, h2, h3⟩
  · exact .inl h1
  · have hi : i < L.n := by
      rcases Nat.lt_or_ge i L.n with h' | h'
      · exact h'
      · rw [LM.get_ge (by omega)] at h1; cases h1
    exact .inr ⟨cs, h1, by rw [hk i (Nat.lt_of_lt_of_le hi h.1)]; exact h2, h3⟩
end
end Go.Proofs.YtgfkjldohilmkaaDoor.Ab
