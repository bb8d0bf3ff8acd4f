/- What follows of a text's tokens: numbers, places, two texts with a line feed between (plain law; no program). -/
import Derived.Test.YtilknkpaghihhaaDoorAbz
import Derived.Test.YtilknkpaghihhaaDoorAbtkA
set_option linter.unusedVariables false
set_option linter.unusedSimpArgs false
namespace Go.Proofs.YtilknkpaghihhaaDoor.Ab
open Go Go.RowKit

/-! Numbers. -/
theorem inB_digC16 : ∀ d : Fin 16, inB 16 (digC d.val) = true := by decide +kernel
theorem inB_digC10 : ∀ d : Fin 10, inB 10 (digC d.val) = true := by decide +kernel
theorem digs_all {B : Nat} {p : UInt8 → Bool} (hB : 2 ≤ B) (h : ∀ d, d < B → p (digC d) = true) : ∀ n, ∀ c ∈ digs B n, p c = true := by
  intro n
  induction n using Nat.strongRecOn with
  | _ n ih =>
    intro c hc
    by_cases hn : n < B
    · rw [digs_lt hn] at hc
      simp at hc; subst hc
      exact h n hn
    · have h1 : n / B < n := Nat.div_lt_self (by omega) (by omega)
      rw [digs_ge (by omega) (by omega), List.mem_append] at hc
      rcases hc with hc | hc
      · exact ih _ h1 c hc
      · simp at hc; subst hc
        exact h _ (Nat.mod_lt _ (by omega))
theorem digs10_all (n : Nat) : ∀ c ∈ digs 10 n, isDig c = true := by
  intro c hc
  have := digs_all (B := 10) (p := inB 10) (by omega) (fun d hd => inB_digC10 ⟨d, hd⟩) n c hc
  simpa [inB] using this
theorem digs16_all (n : Nat) : ∀ c ∈ digs 16 n, inB 16 c = true := digs_all (B := 16) (p := inB 16) (by omega) (fun d hd => inB_digC16 ⟨d, hd⟩) n
theorem runN_all {p : UInt8 → Bool} : ∀ {l : List UInt8}, (∀ c ∈ l, p c = true) → runN p l = l.length
  | [], _ => rfl
  | c :: l, h => by
    simp only [runN, h c (by simp), if_true, List.length_cons]
    rw [runN_all fun c hc => h c (by simp [hc])]
theorem digC_48 : ∀ d : Fin 36, d.val ≠ 0 → digC d.val ≠ 48 := by decide +kernel
theorem digs_first {B : Nat} (hB : 2 ≤ B ∧ B ≤ 36) : ∀ n, 1 ≤ n → ∃ c r, digs B n = c :: r ∧ c ≠ 48 := by
  intro n
  induction n using Nat.strongRecOn with
  | _ n ih =>
    intro hn
    by_cases h : n < B
    · exact ⟨_, [], digs_lt h, digC_48 ⟨n, by omega⟩ (by simp; omega)⟩
    · have h1 : n / B < n := Nat.div_lt_self (by omega) (by omega)
      have h2 : 1 ≤ n / B := (Nat.one_le_div_iff (by omega)).2 (by omega)
      obtain ⟨c, r, e, hc⟩ := ih _ h1 h2
      exact ⟨c, r ++ [digC (n % B)], by rw [digs_ge (by omega) (by omega), e]; rfl, hc⟩
theorem dig_facts {c : UInt8} (h : isDig c = true) : isLet c = false ∧ isBl c = false ∧ c.toNat ≠ 35 ∧ c.toNat ≠ 120 := by
  simp only [isDig, Bool.and_eq_true, decide_eq_true_eq] at h
  refine ⟨?_, ?_, by omega, by omega⟩
  · simp only [isLet, Bool.and_eq_false_iff, decide_eq_false_iff_not]; omega
  · simp only [isBl, Bool.or_eq_false_iff, beq_eq_false_iff_ne]; omega
theorem hexH_dig {l : List UInt8} (h : ∀ c ∈ l, isDig c = true) : hexH l = false := by
  match l, h with
  | [], _ => rfl
  | [_], _ => rfl
  | a :: b :: r, h =>
    have := (dig_facts (h b (by simp))).2.2.2
    simp [hexH, this]
/-- A text of digits. -/
theorem dig_shape {l : List UInt8} (h : ∀ c ∈ l, isDig c = true) : nB l = 10 ∧ nF l = 0 ∧ nN l = l.length ∧ nDs l = l := by
  have hh := hexH_dig h
  have hB : nB l = 10 := by simp [nB, hh]
  have hF : nF l = 0 := by simp [nF, hh]
  have hN : nN l = l.length := by
    unfold nN
    rw [hB, hF, Nat.zero_add, List.drop_zero]
    exact runN_all fun c hc => by simp [inB, h c hc]
  refine ⟨hB, hF, hN, ?_⟩
  unfold nDs
  rw [hN, hF, List.drop_zero, List.take_length]
theorem hex_shape {ds : List UInt8} (h : ∀ c ∈ ds, inB 16 c = true) : nB (48 :: 120 :: ds) = 16 ∧ nF (48 :: 120 :: ds) = 2 ∧ nN (48 :: 120 :: ds) = ds.length + 2 ∧ nDs (48 :: 120 :: ds) = ds := by
  have hh : hexH (48 :: 120 :: ds) = true := rfl
  have hB : nB (48 :: 120 :: ds) = 16 := by simp [nB, hh]
  have hF : nF (48 :: 120 :: ds) = 2 := by simp [nF, hh]
  have hN : nN (48 :: 120 :: ds) = ds.length + 2 := by
    unfold nN
    rw [hB, hF]
    show 2 + runN (inB 16) ds = _
    rw [runN_all h]; omega
  refine ⟨hB, hF, hN, ?_⟩
  unfold nDs
  rw [hN, hF]
  show (48 :: 120 :: ds.take ds.length).drop 2 = ds
  simp
theorem cut_one {c : UInt8} {r : List UInt8} {v : Nat} (hd : isDig c = true) (hv : numV (c :: r) = some v) (hN : nN (c :: r) = (c :: r).length) : cutL 0 (c :: r) = .inr [(⟨2, c :: r, (v : Nat)⟩, 0), (endT, (c :: r).length)] := by
  obtain ⟨h1, h2, h3, -⟩ := dig_facts hd
  have ho : oneL (c :: r) = some ((⟨2, c :: r, ((v : Nat) : Int)⟩ : Tk), (c :: r).length) := by
    simp only [oneL, h1, hd, if_true, Bool.false_eq_true, if_false, hv, hN, Option.map_some, List.take_length]
  rw [cutL_some h2 h3 ho, Nat.zero_add, List.drop_length, cutL_nil]
  rfl
theorem cut_no {c : UInt8} {r : List UInt8} (hd : isDig c = true) (hv : numV (c :: r) = none) : cutL 0 (c :: r) = .inl 0 := by
  obtain ⟨h1, h2, h3, -⟩ := dig_facts hd
  have ho : oneL (c :: r) = none := by
    simp only [oneL, h1, hd, if_true, Bool.false_eq_true, if_false, hv, Option.map_none]
  exact cutL_none h2 h3 ho
theorem digs_cons (B n : Nat) : ∃ c r, digs B n = c :: r := by
  have := digs_pos B n
  match h : digs B n with
  | [] => rw [h] at this; simp at this
  | c :: r => exact ⟨c, r, rfl⟩
theorem cut_dec {n : Nat} (hn : n ≤ 4294967295) : cutL 0 (digs 10 n) = .inr [(⟨2, digs 10 n, (n : Nat)⟩, 0), (endT, (digs 10 n).length)] := by
  have hall := digs10_all n
  obtain ⟨hB, hF, hN, hD⟩ := dig_shape hall
  have hv : numV (digs 10 n) = some n := by
    unfold numV
    rw [hB, hD, puL_digs (by omega) n hn]
    simp [hN, wordN]
  obtain ⟨c, r, e⟩ := digs_cons 10 n
  rw [e] at hv hN hall ⊢
  exact cut_one (hall c (by simp)) hv hN
theorem cut_hex {n : Nat} (hn : n ≤ 4294967295) : cutL 0 (48 :: 120 :: digs 16 n) = .inr [(⟨2, 48 :: 120 :: digs 16 n, (n : Nat)⟩, 0), (endT, (48 :: 120 :: digs 16 n).length)] := by
  obtain ⟨hB, hF, hN, hD⟩ := hex_shape (digs16_all n)
  have hv : numV (48 :: 120 :: digs 16 n) = some n := by
    unfold numV
    rw [hB, hD, puL_digs (by omega) n hn]
    simp [hN, wordN]
  exact cut_one rfl hv hN
theorem puL_big {B M : Nat} (hB : 2 ≤ B ∧ B ≤ 36) {n : Nat} (hn : M < n) : puL B M 0 (digs B n) = none := by
  cases h : puL B M 0 (digs B n) with
  | none => rfl
  | some v =>
    exfalso
    have key : ∀ (l : List UInt8) (a v M' : Nat), puL B M a l = some v → M ≤ M' → puL B M' a l = some v := by
      intro l
      induction l with
      | nil => intro a v M' h _; exact h
      | cons c l ih =>
        intro a v M' h hM
        simp only [puL] at h ⊢
        split at h
        · rename_i n' hs
          have : puStep B M' a c = some n' := by
            unfold puStep at hs ⊢
            split at hs
            · split at hs
              · rename_i hc
                rw [if_pos ⟨hc.1, by omega⟩]; exact hs
              · cases hs
            · cases hs
          rw [this]
          exact ih _ _ _ h hM
        · cases h
    have h2 := key _ _ _ n h (by omega)
    rw [puL_digs hB n (Nat.le_refl _)] at h2
    have hvM : v ≤ M := by
      have le : ∀ (l : List UInt8) (a v : Nat), a ≤ M → puL B M a l = some v → v ≤ M := by
        intro l
        induction l with
        | nil => intro a v h e; simp [puL] at e; omega
        | cons c l ih =>
          intro a v h e
          simp only [puL] at e
          split at e
          · rename_i n' hs
            refine ih n' v ?_ e
            unfold puStep at hs
            split at hs
            · split at hs
              · simp at hs; omega
              · cases hs
            · cases hs
          · cases e
      exact le _ 0 v (by omega) h
    have := Option.some.inj h2
    omega
theorem cut_big {n : Nat} (hn : 4294967295 < n) : cutL 0 (48 :: 120 :: digs 16 n) = .inl 0 := by
  obtain ⟨hB, hF, hN, hD⟩ := hex_shape (digs16_all n)
  have hv : numV (48 :: 120 :: digs 16 n) = none := by
    unfold numV
    rw [hB, hD, puL_big (by omega) hn]
  exact cut_no rfl hv
theorem cut_zero (n : Nat) : cutL 0 (48 :: digs 10 n) = .inl 0 := by
  have hall : ∀ c ∈ 48 :: digs 10 n, isDig c = true := fun c hc => by
    rcases List.mem_cons.1 hc with rfl | hc
    · rfl
    · exact digs10_all n c hc
  obtain ⟨hB, hF, hN, hD⟩ := dig_shape hall
  have hv : numV (48 :: digs 10 n) = none := by
    unfold numV
    rw [hB, hD]
    split
    · rename_i v h
      rw [if_neg]
      rintro ⟨h1, -⟩
      rcases Nat.eq_zero_or_pos v with rfl | hp
      · have h0 : digs 10 0 = [48] := by decide +kernel
        rw [h0] at h1
        have := digs_pos 10 n
        simp only [List.cons.injEq, true_and] at h1
        rw [← h1] at this
        simp at this
      · obtain ⟨c, r, e, hc⟩ := digs_first (B := 10) (by omega) v hp
        rw [e] at h1
        simp only [List.cons.injEq] at h1
        exact hc h1.1
    · rfl
  exact cut_no rfl hv
end Go.Proofs.YtilknkpaghihhaaDoor.Ab
