/- What a law was handed, typed: bytes, rows of bytes, acts. -/
import Derived.Test.YtebgffkiahmhfaaAbw6
set_option linter.unusedVariables false
set_option linter.unusedSimpArgs false
namespace Go.Proofs.Ytebgffkiahmhfaa.Ab
open Go Go.RowKit

section
variable {m : Mem}
theorem parse_u8 (d : TD) (c : List Value) (hf : Fits (.int .u8) d) (h : AbsT m d c) : ∃ a : Int, c = u8c a ∧ isB a := by
  cases h with
  | int k n =>
    simp only [Fits] at hf
    obtain ⟨rfl, hw⟩ := hf
    refine ⟨n, rfl, ?_⟩
    have : 0 ≤ n ∧ n ≤ 255 := by simpa [Lit.wf, IntKind.min, IntKind.max, IntKind.signed, IntKind.bits] using hw
    exact ⟨this.1, by omega⟩
  | bool b => simp [Fits] at hf
  | str s => simp [Fits] at hf
  | sl l v cs z h he hb k => simp [Fits] at hf
  | recd l cs k => simp [Fits] at hf
theorem absT_bytes {td : TD} {v : Value} (h : AbsT m td [v]) (hs : Fits (.sl (.int .u8)) td) :
    ∃ bs : List Int, SlR m 1 v (bs.flatMap u8c) bs.length ∧ (∀ c ∈ bs, isB c) ∧ (∀ b, blk v = some b → b < m.next) ∧ bs.length + 1 ≤ td.bulk := by
  obtain ⟨l, xs, rfl, h1, h2, h3⟩ := absT_slice (R := fun _ a => isB a) u8l parse_u8 h hs
  refine ⟨xs, h1, fun c hc => (h2.right c hc).choose_spec.2, h3, ?_⟩
  have := TD.bulks_len l
  rw [h2.length]
  simp [TD.bulk]; omega

theorem absT_rows {td : TD} {v : Value} (h : AbsT m td [v]) (hs : Fits (.sl (.sl (.int .u8))) td) :
    ∃ xs : List (Value × List Int), SlR m 1 v (xs.flatMap fun x => [x.1]) xs.length ∧ RowsOk m xs ∧ (∀ b, blk v = some b → b < m.next) ∧ xs.length + 1 ≤ td.bulk ∧ (xs.map fun x => x.2.length).sum + 1 ≤ td.bulk := by
  obtain ⟨l, xs, rfl, h1, h2, h3⟩ := absT_slice (f := fun x : Value × List Int => [x.1]) (z := 1) (R := fun d x => (SlR m 1 x.1 (x.2.flatMap u8c) x.2.length ∧ (∀ c ∈ x.2, isB c) ∧ ∀ b, blk x.1 = some b → b < m.next) ∧ x.2.length ≤ d.bulk) (fun _ => rfl) (fun d c hf ha => by
    cases ha with
    | int k n => simp [Fits] at hf
    | bool b => simp [Fits] at hf
    | str s => simp [Fits] at hf
    | recd l cs k => simp [Fits] at hf
    | sl l v cs z a1 a2 a3 a4 =>
      obtain ⟨bs, q1, q2, q3, q4⟩ := absT_bytes (.sl l v cs z a1 a2 a3 a4) hf
      exact ⟨(v, bs), rfl, ⟨q1, q2, q3⟩, by show bs.length ≤ _; omega⟩) h hs
  refine ⟨xs, h1, fun x hx => (h2.right x hx).choose_spec.2.1, h3, ?_, ?_⟩
  · have := TD.bulks_len l
    rw [h2.length]
    simp [TD.bulk]; omega
  · have := h2.sum (g := fun x => x.2.length) fun d b hr => hr.2
    simp [TD.bulk]; omega

theorem absT_acts {td : TD} {v : Value} (h : AbsT m td [v]) (hs : Fits (.sl (.recd [.bool, .int .u8, .bool, .int .u8])) td) :
    ∃ acts : List Ac, SlR m 4 v (acts.flatMap Ac.cells) acts.length ∧ (∀ a ∈ acts, isB a.turn ∧ isB a.byte) ∧ (∀ b, blk v = some b → b < m.next) ∧ acts.length + 1 ≤ td.bulk := by
  obtain ⟨l, xs, rfl, h1, h2, h3⟩ := absT_slice (f := Ac.cells) (z := 4) (R := fun _ a => isB a.turn ∧ isB a.byte) acl (fun d c hf ha => by
    cases ha with
    | int k n => simp [Fits] at hf
    | bool b => simp [Fits] at hf
    | str s => simp [Fits] at hf
    | sl l v cs z h he hb k => simp [Fits] at hf
    | recd l cs k =>
      simp only [Fits] at hf
      cases k with
      | nil => simp [FitsL] at hf
      | cons d1 c1 l1 cs1 a1 k1 =>
        simp only [FitsL] at hf
        obtain ⟨f1, hf⟩ := hf
        cases k1 with
        | nil => simp [FitsL] at hf
        | cons d2 c2 l2 cs2 a2 k2 =>
          simp only [FitsL] at hf
          obtain ⟨f2, hf⟩ := hf
          cases k2 with
          | nil => simp [FitsL] at hf
          | cons d3 c3 l3 cs3 a3 k3 =>
            simp only [FitsL] at hf
            obtain ⟨f3, hf⟩ := hf
            cases k3 with
            | nil => simp [FitsL] at hf
            | cons d4 c4 l4 cs4 a4 k4 =>
              simp only [FitsL] at hf
              obtain ⟨f4, hf⟩ := hf
              cases k4 with
              | cons d5 c5 l5 cs5 a5 k5 => simp [FitsL] at hf
              | nil =>
                obtain ⟨n2, rfl, b2⟩ := parse_u8 d2 c2 f2 a2
                obtain ⟨n4, rfl, b4⟩ := parse_u8 d4 c4 f4 a4
                cases a1 <;> simp [Fits] at f1
                cases a3 <;> simp [Fits] at f3
                rename_i b1 b3
                exact ⟨⟨b1, n2, b3, n4⟩, rfl, b2, b4⟩) h hs
  refine ⟨xs, h1, fun c hc => (h2.right c hc).choose_spec.2, h3, ?_⟩
  have := TD.bulks_len l
  rw [h2.length]
  simp [TD.bulk]; omega
end
end Go.Proofs.Ytebgffkiahmhfaa.Ab
