/- A text's signed number: strconv.ParseInt in the bases 8, 10, 16 (over Abp2). -/
import Derived.Test.YtgfkjldohilmkaaDoorAbz
import Derived.Test.YtgfkjldohilmkaaDoorAbp2
set_option linter.unusedVariables false
set_option linter.unusedSimpArgs false
namespace Go.Proofs.YtgfkjldohilmkaaDoor.Ab
open Go Go.RowKit
set_option maxHeartbeats 4000000
set_option maxRecDepth 100000

theorem dgt_digC : ∀ d : Fin 36, dgt (digC d.val) = some d.val ∧ digC d.val ≠ 43 ∧ digC d.val ≠ 45 := by decide +kernel
theorem puL_snoc {B M : Nat} (c : UInt8) : ∀ (l : List UInt8) (n : Nat), puL B M n (l ++ [c]) = (puL B M n l).bind fun n' => puStep B M n' c
  | [], n => by
    simp only [List.nil_append, puL, Option.bind_some]
    cases puStep B M n c <;> rfl
  | a :: l, n => by
    simp only [List.cons_append, puL]
    cases puStep B M n a with
    | none => rfl
    | some n' => exact puL_snoc c l n'
theorem puL_digs {B M : Nat} (hB : 2 ≤ B ∧ B ≤ 36) : ∀ n, n ≤ M → puL B M 0 (digs B n) = some n := by
  intro n
  induction n using Nat.strongRecOn with
  | _ n ih =>
    intro hn
    by_cases h : n < B
    · rw [digs_lt h]
      simp only [puL, puStep, (dgt_digC ⟨n, by omega⟩).1]
      rw [if_pos ⟨h, by omega⟩]
      simp
    · have h1 : n / B < n := Nat.div_lt_self (by omega) (by omega)
      have h2 : n % B < B := Nat.mod_lt _ (by omega)
      have h3 : n / B * B + n % B = n := Nat.div_add_mod' n B
      rw [digs_ge (by omega) (by omega), puL_snoc, ih _ h1 (by omega)]
      simp only [Option.bind_some, puStep, (dgt_digC ⟨n % B, by omega⟩).1]
      rw [if_pos ⟨h2, by omega⟩, h3]
theorem numS_ofNat {B n : Nat} : numS B (n : Int) = digs B n := by
  unfold numS sgn
  have h : decide ((n : Int) < 0) = false := by simp
  rw [h]
  simp
theorem digs_sgn {B : Nat} (hB : 2 ≤ B ∧ B ≤ 36) : ∀ n, ∀ c ∈ digs B n, c ≠ 43 ∧ c ≠ 45 := by
  intro n
  induction n using Nat.strongRecOn with
  | _ n ih =>
    intro c hc
    by_cases h : n < B
    · rw [digs_lt h] at hc
      simp at hc; subst hc
      exact (dgt_digC ⟨n, by omega⟩).2
    · have h1 : n / B < n := Nat.div_lt_self (by omega) (by omega)
      have h2 : n % B < B := Nat.mod_lt _ (by omega)
      rw [digs_ge (by omega) (by omega), List.mem_append] at hc
      rcases hc with hc | hc
      · exact ih _ h1 c hc
      · simp at hc; subst hc
        exact (dgt_digC ⟨n % B, by omega⟩).2

theorem digs_none {B : Nat} (hB : B = 8 ∨ B = 10 ∨ B = 16) {s : ByteArray} (h : s.size = 0 ∨ puL B 18446744073709551615 0 s.data.toList = none) {k : Nat} (hk : k < 9223372036854775808) : s.data.toList ≠ digs B k := by
  intro e
  rcases h with h | h
  · have := digs_pos B k
    rw [← e] at this
    simp at this
    omega
  · rw [e, puL_digs (by omega) k (by omega)] at h
    cases h
theorem digs_some {B : Nat} (hB : B = 8 ∨ B = 10 ∨ B = 16) {s : ByteArray} {v : Nat} (h : puL B 18446744073709551615 0 s.data.toList = some v) {k : Nat} (hk : k < 9223372036854775808) (e : s.data.toList = digs B k) : v = k := by
  rw [e, puL_digs (by omega) k (by omega)] at h
  exact (Option.some.inj h).symm

theorem dEq_ii {l : List TypeId} {t : TypeId} {k : IntKind} {a b : Int} : dEq (.iface l) (.iface t (.int k a)) (.iface t (.int k b)) = if l.contains t = true then some (a == b) else none := by
  simp [dEq]

end Go.Proofs.YtgfkjldohilmkaaDoor.Ab
