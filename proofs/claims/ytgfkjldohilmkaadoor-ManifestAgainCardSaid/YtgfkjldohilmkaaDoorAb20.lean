/- From the abstract memory back to the statement: how a call begins, and what it leaves. -/
import Derived.Test.YtgfkjldohilmkaaDoorAb19
set_option linter.unusedVariables false
set_option linter.unusedSimpArgs false
namespace Go.Proofs.YtgfkjldohilmkaaDoor.Ab
open Go Go.RowKit

inductive All2 {α β : Type} (R : α → β → Prop) : List α → List β → Prop
  | nil : All2 R [] []
  | cons {a : α} {b : β} {us : List α} {vs : List β} (h : R a b) (k : All2 R us vs) : All2 R (a :: us) (b :: vs)
theorem All2.length {α β : Type} {R : α → β → Prop} {us : List α} {vs : List β} (h : All2 R us vs) : vs.length = us.length := by
  induction h with
  | nil => rfl
  | cons _ _ ih => simp [ih]
theorem All2.right {α β : Type} {R : α → β → Prop} {us : List α} {vs : List β} (h : All2 R us vs) : ∀ b ∈ vs, ∃ a ∈ us, R a b := by
  induction h with
  | nil => intro b hb; cases hb
  | cons h _ ih =>
    intro b hb
    rcases List.mem_cons.1 hb with rfl | hb
    · exact ⟨_, by simp, h⟩
    · obtain ⟨a, h1, h2⟩ := ih b hb
      exact ⟨a, by simp [h1], h2⟩
theorem All2.sum {β : Type} {R : TD → β → Prop} {g : β → Nat} (hg : ∀ d b, R d b → g b ≤ d.bulk) {us : List TD} {vs : List β} (h : All2 R us vs) : (vs.map g).sum ≤ TD.bulks us := by
  induction h with
  | nil => simp
  | cons h _ ih => have := hg _ _ h; simp [TD.bulks]; omega

section
variable {P : Program}
def G0 (P : Program) : Loc := fun i => if i < P.globals.size then some (i, 0, 0) else none
def m0 (P : Program) : Mem := { next := P.globals.size, get := fun _ => .dead }
theorem St.start (P : Program) (W : World) : St P W (G0 P) (m0 P) W where
  below := Below.refl _ _
  dom := fun i x h => by
    unfold G0 at h
    split at h
    · assumption
    · cases h
  lim := fun i _ _ _ hd => (hd rfl).elim
  ent := fun i hd => (hd rfl).elim
  inj := fun i j B x y hi => by cases hi
  glob := fun g hg => ⟨0, by simp [G0, hg]⟩
  ali := fun i cs e B b S hi => by cases hi

theorem AbC_true {W : World} {f : FuncId} {args args' : List Value} {G : Loc} {m : Mem} (hs : St P W G m W) (hv : VRs G args args') (h : AbC P W f args m fun v _ => v = .bool true) (hc : callOk P f = true) :
    Calls P f args'.toArray W fun e w' => e = .returned (.bool true) ∧ Below W.heap.size W w' := by
  have := h G W args' hs hv
  rw [run_callFunc_enter hc] at this
  refine Calls.mono (show Calls P f args'.toArray W _ from this) ?_
  rintro e w' ⟨v, rfl, G', u, m', h1, h2, h3, rfl⟩
  cases h2
  exact ⟨rfl, h3.below⟩

variable {W : World} {H : Type} {enc : TypeId × Value → H}
/-- An argument, laid into the memory. -/
theorem arg_one {k : Nat} {t : TypeId} {s : Shp} {v : Value} {d : DataW H} {p : List MemPlace} (hs : shpOf P k t = some s) (h : DataW.Trod enc P W 0 (fun _ => true) true t v d p) (hv : v.cells = #[v]) {G : Loc} {m : Mem} (hst : St P W G m W) :
    ∃ G' m' v' td, Grow G m G' m' ∧ St P W G' m' W ∧ VR G' v' v ∧ AbsT m' td [v'] ∧ Fits s td ∧ td.bulk ≤ Rows.uptoBulk d := by
  obtain ⟨fuel, hf⟩ := h
  obtain ⟨G', m', cs', td, h1, h2, h3, h4, h5, h6⟩ := open_T fuel hs hf G m hst
  rw [hv] at h3
  simp at h3
  cases h3 with
  | cons v' _ l _ h k =>
    cases k
    exact ⟨G', m', v', td, h1, h2, h, h4, h5, h6⟩
end

section
variable {m : Mem} {α : Type} {f : α → List Value} {z : Nat}
theorem absTs_parse {s : Shp} {R : TD → α → Prop} (parse : ∀ d c, Fits s d → AbsT m d c → ∃ a, c = f a ∧ R d a) : ∀ {l : List TD} {cs : List Value}, AbsTs m l cs → (∀ x ∈ l, Fits s x) → ∃ xs : List α, cs = xs.flatMap f ∧ All2 R l xs
  | _, _, .nil, _ => ⟨[], rfl, .nil⟩
  | _, _, .cons d c l cs h k, hf => by
    obtain ⟨a, rfl, ha⟩ := parse d c (hf d (by simp)) h
    obtain ⟨xs, rfl, hx⟩ := absTs_parse parse k fun x hx => hf x (by simp [hx])
    exact ⟨a :: xs, by simp, .cons ha hx⟩

theorem absT_slice {s : Shp} {R : TD → α → Prop} (hf : ∀ a, (f a).length = z) (parse : ∀ d c, Fits s d → AbsT m d c → ∃ a, c = f a ∧ R d a) {td : TD} {v : Value} (h : AbsT m td [v]) (hs : Fits (.sl s) td) :
    ∃ (l : List TD) (xs : List α), td = .sl l ∧ SlR m z v (xs.flatMap f) xs.length ∧ All2 R l xs ∧ (∀ b, blk v = some b → b < m.next) := by
  generalize hcs : [v] = cs at h
  cases h with
  | int k n => simp [Fits] at hs
  | bool b => simp [Fits] at hs
  | str s => simp [Fits] at hs
  | recd l cs k => simp [Fits] at hs
  | sl l v' cs z' hr he hb k =>
    simp at hcs
    subst hcs
    simp only [Fits] at hs
    obtain ⟨xs, rfl, hx⟩ := absTs_parse parse k hs
    have hlen := hx.length
    refine ⟨l, xs, rfl, ?_, hx, hb⟩
    by_cases h0 : l = []
    · subst h0
      have : xs = [] := by simpa using hlen
      subst this
      exact ⟨by simp, .inl ⟨rfl, he rfl⟩⟩
    · have hl : 0 < l.length := List.length_pos_iff.2 h0
      have h1 := hr.1
      rw [flat_len hf, hlen] at h1
      have hz : z' = z := Nat.eq_of_mul_eq_mul_left hl h1.symm
      subst hz
      rw [hlen]
      exact hr
end
end Go.Proofs.YtgfkjldohilmkaaDoor.Ab
