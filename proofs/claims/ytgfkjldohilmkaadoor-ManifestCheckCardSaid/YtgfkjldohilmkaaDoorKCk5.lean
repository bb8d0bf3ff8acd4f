/- Parts of a proof, put together: What follows of a text's tokens: numbers, places, two texts with a line feed between (plain law; no program). -/
import Derived.Test.YtgfkjldohilmkaaDoorKCk4
import Derived.Test.YtgfkjldohilmkaaDoorProg
import Derived.WalkKit
import Derived.LaidEql
import Derived.Stop.Asserts
import Derived.RowKitTokens
import Derived.KernelRfl
set_option linter.unusedVariables false
set_option linter.unusedSimpArgs false
namespace Go.Proofs.YtgfkjldohilmkaaDoor.Ab
open Go Go.RowKit

/-! Numbers. -/
theorem inB_digC16 : ∀ d : Fin 16, inB 16 (digC d.val) = true := by decide +kernel
theorem inB_digC10 : ∀ d : Fin 10, inB 10 (digC d.val) = true := by decide +kernel
theorem digs_all {B : Nat} {p : UInt8 → Bool} (hB : 2 ≤ B) (h : ∀ d, d < B → p (digC d) = true) : ∀ n, ∀ c ∈ digs B n, p c = true := by
  intro n
  induction n using Nat.strongRecOn with
  | _ n ih =>
    intro c hc
    by_cases hn : n < B
    · rw [digs_lt hn] at hc
      simp at hc; subst hc
      exact h n hn
    · have h1 : n / B < n := Nat.div_lt_self (by omega) (by omega)
      rw [digs_ge (by omega) (by omega), List.mem_append] at hc
      rcases hc with hc | hc
      · exact ih _ h1 c hc
      · simp at hc; subst hc
        exact h _ (Nat.mod_lt _ (by omega))
theorem digs10_all (n : Nat) : ∀ c ∈ digs 10 n, isDig c = true := by
  intro c hc
  have := digs_all (B := 10) (p := inB 10) (by omega) (fun d hd => inB_digC10 ⟨d, hd⟩) n c hc
  simpa [inB] using this
theorem digs16_all (n : Nat) : ∀ c ∈ digs 16 n, inB 16 c = true := digs_all (B := 16) (p := inB 16) (by omega) (fun d hd => inB_digC16 ⟨d, hd⟩) n
theorem runN_all {p : UInt8 → Bool} : ∀ {l : List UInt8}, (∀ c ∈ l, p c = true) → runN p l = l.length
  | [], _ => rfl
  | c :: l, h => by
    simp only [runN, h c (by simp), if_true, List.length_cons]
    rw [runN_all fun c hc => h c (by simp [hc])]
theorem digC_48 : ∀ d : Fin 36, d.val ≠ 0 → digC d.val ≠ 48 := by decide +kernel
theorem digs_first {B : Nat} (hB : 2 ≤ B ∧ B ≤ 36) : ∀ n, 1 ≤ n → ∃ c r, digs B n = c :: r ∧ c ≠ 48 := by
  intro n
  induction n using Nat.strongRecOn with
  | _ n ih =>
    intro hn
    by_cases h : n < B
    · exact ⟨_, [], digs_lt h, digC_48 ⟨n, by omega⟩ (by simp; omega)⟩
    · have h1 : n / B < n := Nat.div_lt_self (by omega) (by omega)
      have h2 : 1 ≤ n / B := (Nat.one_le_div_iff (by omega)).2 (by omega)
      obtain ⟨c, r, e, hc⟩ := ih _ h1 h2
      exact ⟨c, r ++ [digC (n % B)], by rw [digs_ge (by omega) (by omega), e]; rfl, hc⟩
theorem dig_facts {c : UInt8} (h : isDig c = true) : isLet c = false ∧ isBl c = false ∧ c.toNat ≠ 35 ∧ c.toNat ≠ 120 := by
  simp only [isDig, Bool.and_eq_true, decide_eq_true_eq] at h
  refine ⟨?_, ?_, by omega, by omega⟩
  · simp only [isLet, Bool.and_eq_false_iff, decide_eq_false_iff_not]; omega
  · simp only [isBl, Bool.or_eq_false_iff, beq_eq_false_iff_ne]; omega
theorem hexH_dig {l : List UInt8} (h : ∀ c ∈ l, isDig c = true) : hexH l = false := by
  match l, h with
  | [], _ => rfl
  | [_], _ => rfl
  | a :: b :: r, h =>
    have := (dig_facts (h b (by simp))).2.2.2
    simp [hexH, this]
/-- A text of digits. -/
theorem dig_shape {l : List UInt8} (h : ∀ c ∈ l, isDig c = true) : nB l = 10 ∧ nF l = 0 ∧ nN l = l.length ∧ nDs l = l := by
  have hh := hexH_dig h
  have hB : nB l = 10 := by simp [nB, hh]
  have hF : nF l = 0 := by simp [nF, hh]
  have hN : nN l = l.length := by
    unfold nN
    rw [hB, hF, Nat.zero_add, List.drop_zero]
    exact runN_all fun c hc => by simp [inB, h c hc]
  refine ⟨hB, hF, hN, ?_⟩
  unfold nDs
  rw [hN, hF, List.drop_zero, List.take_length]
theorem hex_shape {ds : List UInt8} (h : ∀ c ∈ ds, inB 16 c = true) : nB (48 :: 120 :: ds) = 16 ∧ nF (48 :: 120 :: ds) = 2 ∧ nN (48 :: 120 :: ds) = ds.length + 2 ∧ nDs (48 :: 120 :: ds) = ds := by
  have hh : hexH (48 :: 120 :: ds) = true := rfl
  have hB : nB (48 :: 120 :: ds) = 16 := by simp [nB, hh]
  have hF : nF (48 :: 120 :: ds) = 2 := by simp [nF, hh]
  have hN : nN (48 :: 120 :: ds) = ds.length + 2 := by
    unfold nN
    rw [hB, hF]
    show 2 + runN (inB 16) ds = _
    rw [runN_all h]; omega
  refine ⟨hB, hF, hN, ?_⟩
  unfold nDs
  rw [hN, hF]
  show (48 :: 120 :: ds.take ds.length).drop 2 = ds
  simp
theorem cut_one {c : UInt8} {r : List UInt8} {v : Nat} (hd : isDig c = true) (hv : numV (c :: r) = some v) (hN : nN (c :: r) = (c :: r).length) : cutL 0 (c :: r) = .inr [(⟨2, c :: r, (v : Nat)⟩, 0), (endT, (c :: r).length)] := by
  obtain ⟨h1, h2, h3, -⟩ := dig_facts hd
  have ho : oneL (c :: r) = some ((⟨2, c :: r, ((v : Nat) : Int)⟩ : Tk), (c :: r).length) := by
    simp only [oneL, h1, hd, if_true, Bool.false_eq_true, if_false, hv, hN, Option.map_some, List.take_length]
  rw [cutL_some h2 h3 ho, Nat.zero_add, List.drop_length, cutL_nil]
  rfl
theorem cut_no {c : UInt8} {r : List UInt8} (hd : isDig c = true) (hv : numV (c :: r) = none) : cutL 0 (c :: r) = .inl 0 := by
  obtain ⟨h1, h2, h3, -⟩ := dig_facts hd
  have ho : oneL (c :: r) = none := by
    simp only [oneL, h1, hd, if_true, Bool.false_eq_true, if_false, hv, Option.map_none]
  exact cutL_none h2 h3 ho
theorem digs_cons (B n : Nat) : ∃ c r, digs B n = c :: r := by
  have := digs_pos B n
  match h : digs B n with
  | [] => rw [h] at this; simp at this
  | c :: r => exact ⟨c, r, rfl⟩
theorem cut_dec {n : Nat} (hn : n ≤ 4294967295) : cutL 0 (digs 10 n) = .inr [(⟨2, digs 10 n, (n : Nat)⟩, 0), (endT, (digs 10 n).length)] := by
  have hall := digs10_all n
  obtain ⟨hB, hF, hN, hD⟩ := dig_shape hall
  have hv : numV (digs 10 n) = some n := by
    unfold numV
    rw [hB, hD, puL_digs (by omega) n hn]
    simp [hN, wordN]
  obtain ⟨c, r, e⟩ := digs_cons 10 n
  rw [e] at hv hN hall ⊢
  exact cut_one (hall c (by simp)) hv hN
theorem cut_hex {n : Nat} (hn : n ≤ 4294967295) : cutL 0 (48 :: 120 :: digs 16 n) = .inr [(⟨2, 48 :: 120 :: digs 16 n, (n : Nat)⟩, 0), (endT, (48 :: 120 :: digs 16 n).length)] := by
  obtain ⟨hB, hF, hN, hD⟩ := hex_shape (digs16_all n)
  have hv : numV (48 :: 120 :: digs 16 n) = some n := by
    unfold numV
    rw [hB, hD, puL_digs (by omega) n hn]
    simp [hN, wordN]
  exact cut_one rfl hv hN
theorem puL_big {B M : Nat} (hB : 2 ≤ B ∧ B ≤ 36) {n : Nat} (hn : M < n) : puL B M 0 (digs B n) = none := by
  cases h : puL B M 0 (digs B n) with
  | none => rfl
  | some v =>
    exfalso
    have key : ∀ (l : List UInt8) (a v M' : Nat), puL B M a l = some v → M ≤ M' → puL B M' a l = some v := by
      intro l
      induction l with
      | nil => intro a v M' h _; exact h
      | cons c l ih =>
        intro a v M' h hM
        simp only [puL] at h ⊢
        split at h
        · rename_i n' hs
          have : puStep B M' a c = some n' := by
            unfold puStep at hs ⊢
            split at hs
            · split at hs
              · rename_i hc
                rw [if_pos ⟨hc.1, by omega⟩]; exact hs
              · cases hs
            · cases hs
          rw [this]
          exact ih _ _ _ h hM
        · cases h
    have h2 := key _ _ _ n h (by omega)
    rw [puL_digs hB n (Nat.le_refl _)] at h2
    have hvM : v ≤ M := by
      have le : ∀ (l : List UInt8) (a v : Nat), a ≤ M → puL B M a l = some v → v ≤ M := by
        intro l
        induction l with
        | nil => intro a v h e; simp [puL] at e; omega
        | cons c l ih =>
          intro a v h e
          simp only [puL] at e
          split at e
          · rename_i n' hs
            refine ih n' v ?_ e
            unfold puStep at hs
            split at hs
            · split at hs
              · simp at hs; omega
              · cases hs
            · cases hs
          · cases e
      exact le _ 0 v (by omega) h
    have := Option.some.inj h2
    omega
theorem cut_big {n : Nat} (hn : 4294967295 < n) : cutL 0 (48 :: 120 :: digs 16 n) = .inl 0 := by
  obtain ⟨hB, hF, hN, hD⟩ := hex_shape (digs16_all n)
  have hv : numV (48 :: 120 :: digs 16 n) = none := by
    unfold numV
    rw [hB, hD, puL_big (by omega) hn]
  exact cut_no rfl hv
theorem cut_zero (n : Nat) : cutL 0 (48 :: digs 10 n) = .inl 0 := by
  have hall : ∀ c ∈ 48 :: digs 10 n, isDig c = true := fun c hc => by
    rcases List.mem_cons.1 hc with rfl | hc
    · rfl
    · exact digs10_all n c hc
  obtain ⟨hB, hF, hN, hD⟩ := dig_shape hall
  have hv : numV (48 :: digs 10 n) = none := by
    unfold numV
    rw [hB, hD]
    split
    · rename_i v h
      rw [if_neg]
      rintro ⟨h1, -⟩
      rcases Nat.eq_zero_or_pos v with rfl | hp
      · have h0 : digs 10 0 = [48] := by decide +kernel
        rw [h0] at h1
        have := digs_pos 10 n
        simp only [List.cons.injEq, true_and] at h1
        rw [← h1] at this
        simp at this
      · obtain ⟨c, r, e, hc⟩ := digs_first (B := 10) (by omega) v hp
        rw [e] at h1
        simp only [List.cons.injEq] at h1
        exact hc h1.1
    · rfl
  exact cut_no rfl hv
end Go.Proofs.YtgfkjldohilmkaaDoor.Ab
/- What follows of a text's tokens: where they stand; two texts with a line feed between (plain law; no program). -/
set_option linter.unusedVariables false
set_option linter.unusedSimpArgs false
namespace Go.Proofs.YtgfkjldohilmkaaDoor.Ab
open Go Go.RowKit

/-! Places. -/
def PlL (L : List UInt8) : Int → List (Tk × Nat) → Prop
  | _, [] => True
  | pr, p :: us => (p.1.kd ≠ 0 → pr < (p.2 : Int)) ∧ pr ≤ (p.2 : Int) ∧ p.2 ≤ L.length ∧ (p.1.kd ≠ 3 → p.2 + p.1.tx.length ≤ L.length ∧ (L.drop p.2).take p.1.tx.length = p.1.tx) ∧ PlL L (p.2 : Int) us
theorem oneL_text {l : List UInt8} {t : Tk} {n : Nat} (h : oneL l = some (t, n)) : t.kd ≠ 0 ∧ (t.kd ≠ 3 → t.tx.length ≤ l.length ∧ l.take t.tx.length = t.tx) := by
  cases l with
  | nil => simp [oneL] at h
  | cons c r =>
    have tk : ∀ k : Nat, ((c :: r).take k).length ≤ (c :: r).length ∧ (c :: r).take ((c :: r).take k).length = (c :: r).take k := fun k => by
      rw [List.length_take]
      refine ⟨by omega, ?_⟩
      rw [List.take_eq_take_iff]
      omega
    simp only [oneL] at h
    split at h
    · simp only [Option.some.injEq, Prod.mk.injEq] at h
      obtain ⟨rfl, rfl⟩ := h
      exact ⟨by show (1 : Int) ≠ 0; decide, fun _ => tk _⟩
    · split at h
      · cases hv : numV (c :: r) with
        | none => simp [hv] at h
        | some v =>
          simp only [hv, Option.map_some, Option.some.injEq, Prod.mk.injEq] at h
          obtain ⟨rfl, rfl⟩ := h
          exact ⟨by show (2 : Int) ≠ 0; decide, fun _ => tk _⟩
      · split at h
        · cases hq : qd r with
          | none => simp [hq] at h
          | some p =>
            simp only [hq, Option.map_some, Option.some.injEq, Prod.mk.injEq] at h
            obtain ⟨rfl, rfl⟩ := h
            exact ⟨by show (3 : Int) ≠ 0; decide, fun h => absurd rfl h⟩
        · split at h
          · simp only [Option.some.injEq, Prod.mk.injEq] at h
            obtain ⟨rfl, rfl⟩ := h
            exact ⟨by show (4 : Int) ≠ 0; decide, fun _ => tk 1⟩
          · cases h
theorem cut_places (L : List UInt8) : ∀ (k a : Nat), L.length - a ≤ k → a ≤ L.length → (∀ e, cutL a (L.drop a) = .inl e → e ≤ L.length) ∧ (∀ us, cutL a (L.drop a) = .inr us → (∀ pr : Int, pr < (a : Int) → PlL L pr us) ∧ ∃ i, us = i ++ [(endT, L.length)])
  | k, a, hk, ha => by
    rcases hd : L.drop a with _ | ⟨c, r⟩
    · have hla : L.length = a := by
        have := congrArg List.length hd
        rw [List.length_drop] at this
        simp at this; omega
      rw [cutL_nil]
      refine ⟨fun e h => (by cases h), fun us h => ?_⟩
      cases h
      refine ⟨fun pr hpr => ?_, [], by rw [hla]; rfl⟩
      refine ⟨fun h => by simp [endT] at h, by omega, by omega, fun _ => ⟨by simp [endT]; omega, by simp [endT]⟩, trivial⟩
    · have hl := congrArg List.length hd
      rw [List.length_drop] at hl
      simp only [List.length_cons] at hl
      obtain ⟨k, rfl⟩ : ∃ k', k = k' + 1 := ⟨k - 1, by omega⟩
      have hr : L.drop (a + 1) = r := by
        have := congrArg (List.drop 1) hd
        rw [List.drop_drop] at this
        simpa using this
      cases hb : isBl c with
      | true =>
        rw [cutL_bl hb, ← hr]
        obtain ⟨i1, i2⟩ := cut_places L k (a + 1) (by omega) (by omega)
        exact ⟨i1, fun us h => ⟨fun pr hpr => (i2 us h).1 pr (by omega), (i2 us h).2⟩⟩
      | false =>
        by_cases h35 : c.toNat = 35
        · have h1 := run_cm (r := r) h35
          have h2 := runN_le no10 (c :: r)
          simp only [List.length_cons] at h2
          rw [cutL_cm hb h35, ← hd, List.drop_drop]
          rw [← hd] at h1 h2
          obtain ⟨i1, i2⟩ := cut_places L k (a + runN no10 (L.drop a)) (by omega) (by omega)
          exact ⟨i1, fun us h => ⟨fun pr hpr => (i2 us h).1 pr (by omega), (i2 us h).2⟩⟩
        · cases ho : oneL (c :: r) with
          | none =>
            rw [cutL_none hb h35 ho]
            exact ⟨fun e h => (by cases h; exact ha), fun us h => by cases h⟩
          | some q =>
            obtain ⟨t, n⟩ := q
            obtain ⟨n1, n2⟩ := oneL_len ho
            obtain ⟨x1, x2⟩ := oneL_text ho
            simp only [List.length_cons] at n2
            rw [cutL_some hb h35 ho, ← hd, List.drop_drop]
            obtain ⟨i1, i2⟩ := cut_places L k (a + n) (by omega) (by omega)
            refine ⟨fun e h => ?_, fun us h => ?_⟩
            · cases hc : cutL (a + n) (L.drop (a + n)) with
              | inl e' =>
                rw [hc] at h
                simp only [preC, Sum.inl.injEq] at h
                subst h
                exact i1 _ hc
              | inr vs => rw [hc] at h; cases h
            · cases hc : cutL (a + n) (L.drop (a + n)) with
              | inl e' => rw [hc] at h; cases h
              | inr vs =>
                rw [hc] at h
                simp only [preC, Sum.inr.injEq] at h
                subst h
                obtain ⟨j1, i, j2⟩ := i2 _ hc
                refine ⟨fun pr hpr => ⟨fun _ => hpr, by omega, by omega, fun hk => ?_, j1 _ (by omega)⟩, (t, a) :: i, by rw [j2]; rfl⟩
                obtain ⟨y1, y2⟩ := x2 hk
                simp only [List.length_cons] at y1
                exact ⟨by show a + t.tx.length ≤ L.length; omega, by show (L.drop a).take t.tx.length = t.tx; rw [hd]; exact y2⟩

/-! Two texts, one behind the other. -/
def shC (d : Nat) : Cuts → Cuts
  | .inl e => .inl (e + d)
  | .inr us => .inr (us.map fun p => (p.1, p.2 + d))
theorem shC_pre (d : Nat) (us : List (Tk × Nat)) (c : Cuts) : shC d (preC us c) = preC (us.map fun p => (p.1, p.2 + d)) (shC d c) := by
  cases c <;> simp [shC, preC]
theorem cutL_shift (d : Nat) : ∀ (k a : Nat) (l : List UInt8), l.length ≤ k → cutL (a + d) l = shC d (cutL a l)
  | _, a, [], _ => rfl
  | 0, a, _ :: _, h => by simp at h
  | k + 1, a, c :: r, h => by
    simp only [List.length_cons] at h
    cases hb : isBl c with
    | true => rw [cutL_bl hb, cutL_bl hb, ← cutL_shift d k (a + 1) r (by omega), Nat.add_right_comm]
    | false =>
      by_cases h35 : c.toNat = 35
      · have h1 := run_cm (r := r) h35
        rw [cutL_cm hb h35, cutL_cm hb h35, ← cutL_shift d k _ _ (by rw [List.length_drop]; simp; omega), Nat.add_right_comm]
      · cases ho : oneL (c :: r) with
        | none => rw [cutL_none hb h35 ho, cutL_none hb h35 ho]; rfl
        | some q =>
          obtain ⟨t, n⟩ := q
          obtain ⟨n1, n2⟩ := oneL_len ho
          rw [cutL_some hb h35 ho, cutL_some hb h35 ho, shC_pre, ← cutL_shift d k _ _ (by rw [List.length_drop]; simp; omega), Nat.add_right_comm]
          rfl
theorem wordN_lf (y : List UInt8) : ∀ (b : Bool) (x : List UInt8), wordN b (x ++ 10 :: y) = wordN b x
  | b, [] => by
    have : wq b 10 = false := by cases b <;> rfl
    simp [wordN, this]
  | b, c :: r => by
    simp only [List.cons_append, wordN, wordN_lf y true r]
theorem runN_lf {p : UInt8 → Bool} (hp : p 10 = false) (y : List UInt8) : ∀ x : List UInt8, runN p (x ++ 10 :: y) = runN p x
  | [] => by simp [runN, hp]
  | c :: r => by simp only [List.cons_append, runN, runN_lf hp y r]
theorem hexH_lf (y : List UInt8) : ∀ x : List UInt8, x ≠ [] → hexH (x ++ 10 :: y) = hexH x
  | [], h => absurd rfl h
  | [a], _ => by simp [hexH]
  | a :: b :: r, _ => rfl
theorem inB_lf (B : Nat) : inB B 10 = false := by simp [inB, isDig, isHx]
theorem num_lf {x : List UInt8} (y : List UInt8) (h : x ≠ []) : nB (x ++ 10 :: y) = nB x ∧ nF (x ++ 10 :: y) = nF x ∧ nN (x ++ 10 :: y) = nN x ∧ nDs (x ++ 10 :: y) = nDs x ∧ numV (x ++ 10 :: y) = numV x := by
  have hB : nB (x ++ 10 :: y) = nB x := by simp only [nB, hexH_lf y x h]
  have hF : nF (x ++ 10 :: y) = nF x := by simp only [nF, hexH_lf y x h]
  have hN : nN (x ++ 10 :: y) = nN x := by
    unfold nN
    rw [hB, hF, List.drop_append_of_le_length (nF_le x), runN_lf (inB_lf _)]
  have hD : nDs (x ++ 10 :: y) = nDs x := by
    unfold nDs
    rw [hN, hF, List.take_append_of_le_length (nN_le x)]
  refine ⟨hB, hF, hN, hD, ?_⟩
  unfold numV
  rw [hB, hD, hN, List.drop_append_of_le_length (nN_le x), wordN_lf]
theorem qd_lf (y : List UInt8) : ∀ x : List UInt8, qd (x ++ 10 :: y) = qd x
  | [] => by
    cases y <;> simp [qd]
  | [c] => by
    have h10 : qd (10 :: y) = none := by cases y <;> simp [qd]
    have he : escD 10 = none := rfl
    show qd (c :: 10 :: y) = qd [c]
    simp only [qd, h10, he]
    split
    · rfl
    · split
      · rfl
      · split <;> rfl
  | c :: e :: r => by
    have h1 := qd_lf y r
    have h2 := qd_lf y (e :: r)
    show qd (c :: e :: (r ++ 10 :: y)) = qd (c :: e :: r)
    simp only [qd, h1]
    rw [show qd (e :: (r ++ 10 :: y)) = qd (e :: r) from h2]
theorem oneL_lf {x : List UInt8} (y : List UInt8) (h : x ≠ []) : oneL (x ++ 10 :: y) = oneL x := by
  match x, h with
  | c :: r, h =>
    obtain ⟨-, -, hN, -, hV⟩ := num_lf y h
    have hw := wordN_lf y false (c :: r)
    have hq := qd_lf y r
    have t1 := List.take_append_of_le_length (l₂ := 10 :: y) (wordN_le false (c :: r))
    have t2 := List.take_append_of_le_length (l₂ := 10 :: y) (nN_le (c :: r))
    simp only [List.cons_append] at hN hV hw t1 t2 ⊢
    simp only [oneL, hw, hN, hV, hq, t1, t2]
theorem cut_lf (y : List UInt8) : ∀ (k a : Nat) (x : List UInt8), x.length ≤ k → (∀ e, cutL a x = .inl e → cutL a (x ++ 10 :: y) = .inl e) ∧ (∀ us, cutL a x = .inr us → ∃ i, us = i ++ [(endT, a + x.length)] ∧ cutL a (x ++ 10 :: y) = preC i (cutL (a + x.length + 1) y))
  | _, a, [], _ => by
    refine ⟨fun e h => (by cases h), fun us h => ?_⟩
    cases h
    refine ⟨[], rfl, ?_⟩
    rw [preC_nil]
    exact cutL_bl rfl
  | 0, a, _ :: _, h => by simp at h
  | k + 1, a, c :: r, h => by
    simp only [List.length_cons] at h
    cases hb : isBl c with
    | true =>
      obtain ⟨i1, i2⟩ := cut_lf y k (a + 1) r (by omega)
      rw [List.cons_append, cutL_bl hb, cutL_bl hb]
      refine ⟨i1, fun us hu => ?_⟩
      obtain ⟨i, e1, e2⟩ := i2 us hu
      refine ⟨i, ?_, ?_⟩
      · rw [e1]; simp; omega
      · rw [e2]; simp only [List.length_cons]; congr 2; omega
    | false =>
      by_cases h35 : c.toNat = 35
      · have h1 := run_cm (r := r) h35
        have h2 := runN_le no10 (c :: r)
        have hr := runN_lf (p := no10) rfl y (c :: r)
        rw [List.cons_append] at hr ⊢
        rw [cutL_cm hb h35, cutL_cm hb h35, hr, ← List.cons_append, List.drop_append_of_le_length h2]
        obtain ⟨i1, i2⟩ := cut_lf y k (a + runN no10 (c :: r)) ((c :: r).drop (runN no10 (c :: r))) (by rw [List.length_drop]; simp; omega)
        refine ⟨i1, fun us hu => ?_⟩
        obtain ⟨i, e1, e2⟩ := i2 us hu
        have hl : a + runN no10 (c :: r) + ((c :: r).drop (runN no10 (c :: r))).length = a + (c :: r).length := by rw [List.length_drop]; omega
        rw [hl] at e1 e2
        exact ⟨i, e1, e2⟩
      · have hol := oneL_lf y (x := c :: r) (by simp)
        rw [List.cons_append] at hol ⊢
        cases ho : oneL (c :: r) with
        | none =>
          rw [ho] at hol
          rw [cutL_none hb h35 ho, cutL_none hb h35 hol]
          exact ⟨fun e h => h, fun us h => by cases h⟩
        | some q =>
          obtain ⟨t, n⟩ := q
          rw [ho] at hol
          obtain ⟨n1, n2⟩ := oneL_len ho
          rw [cutL_some hb h35 ho, cutL_some hb h35 hol, ← List.cons_append, List.drop_append_of_le_length n2]
          obtain ⟨i1, i2⟩ := cut_lf y k (a + n) ((c :: r).drop n) (by rw [List.length_drop]; simp; omega)
          have hl : a + n + ((c :: r).drop n).length = a + (c :: r).length := by rw [List.length_drop]; omega
          rw [hl] at i2
          cases hc : cutL (a + n) ((c :: r).drop n) with
          | inl e' =>
            refine ⟨fun e h => ?_, fun us h => by cases h⟩
            rw [i1 e' hc]
            exact h
          | inr vs =>
            refine ⟨fun e h => (by cases h), fun us h => ?_⟩
            simp only [preC, Sum.inr.injEq] at h
            subst h
            obtain ⟨i, e1, e2⟩ := i2 vs hc
            exact ⟨(t, a) :: i, by rw [e1]; rfl, by rw [e2, preC_pre]; rfl⟩
end Go.Proofs.YtgfkjldohilmkaaDoor.Ab
/- A manifest's text is read: the parser. -/
set_option linter.unusedVariables false
set_option linter.unusedSimpArgs false
namespace Go.Proofs.YtgfkjldohilmkaaDoor.Ab
open Go Go.RowKit
set_option maxHeartbeats 1000000
set_option maxRecDepth 100000

/-- What lies of a token in a slice. -/
structure TokAt (m : Mem) (v : Value) (n j : Nat) (p : Tk × Nat) (i q : Nat) (L : List Value) : Prop where
  idx : sidx 4 v (.int .i64 (j : Int)) = some (.pointer (some ⟨i, q, none⟩))
  get : (m.get i).cells? = some L
  len : q + 4 ≤ L.length
  g0 : L[q]? = some (.int .i64 p.1.kd)
  g1 : L[q + 1]? = some (.string ⟨⟨p.1.tx⟩⟩)
  g2 : L[q + 2]? = some (.int .i64 p.1.vl)
  g3 : L[q + 3]? = some (.int .i64 (p.2 : Int))
  g : (L.drop q).take 4 = cellP p
theorem tok_at {m : Mem} {v : Value} {us : List (Tk × Nat)} {j : Nat} (h : SlR m 4 v (us.flatMap cellP) us.length) (hj : j < us.length) : ∃ i q L, TokAt m v us.length j us[j] i q L := by
  obtain ⟨i, o, L, hv, hL, hl, ht, hc⟩ := h.at hj
  refine ⟨i, o + j * 4, L, ?_, hL, by omega, ?_, ?_, ?_, ?_, ?_⟩
  · rw [hv]; exact sidx_at hj
  · have := hc 0 (by omega)
    rw [flat_at' cellP_len us (List.getElem?_eq_getElem hj) (by omega)] at this
    exact this
  · have := hc 1 (by omega)
    rw [flat_at' cellP_len us (List.getElem?_eq_getElem hj) (by omega)] at this
    exact this
  · have := hc 2 (by omega)
    rw [flat_at' cellP_len us (List.getElem?_eq_getElem hj) (by omega)] at this
    exact this
  · have := hc 3 (by omega)
    rw [flat_at' cellP_len us (List.getElem?_eq_getElem hj) (by omega)] at this
    exact this
  · rw [ht, flat_at cellP_len us (List.getElem?_eq_getElem hj)]
theorem getL {L : List Value} {k : Nat} {x : Value} (h : L[k]? = some x) : ∀ hk : k < L.length, L[k]'hk = x := fun hk => by
  rw [List.getElem?_eq_getElem hk] at h
  exact Option.some.inj h

/-- Where a parser is, and what was wrong first. -/
structure PS where
  k : Nat
  err : Option (Nat × Nat)
def errV (e : Option (Nat × Nat)) : Value := match e with
  | none => .nilIface
  | some p => faultV p.1 p.2
/-- The parser lies in a block, over tokens that lie in another. -/
def PsAt (m : Mem) (ip it : Nat) (ts : List (Tk × Nat)) (s : PS) : Prop := m.get ip = .own [.slice (some ⟨it, 0, none⟩) ts.length 4, .int .i64 (s.k : Int), errV s.err] 75 ∧ m.get it = .own (ts.flatMap cellP) 78 ∧ ip < m.next ∧ it < m.next ∧ ip ≠ it
/-- Nothing but the parser has changed. -/
def Kept (ip : Nat) (m m' : Mem) : Prop := m.next ≤ m'.next ∧ ∀ i, i < m.next → i ≠ ip → m'.get i = m.get i
theorem Kept.refl (ip : Nat) (m : Mem) : Kept ip m m := ⟨Nat.le_refl _, fun _ _ _ => rfl⟩
theorem Kept.trans {ip : Nat} {a b c : Mem} (h : Kept ip a b) (k : Kept ip b c) : Kept ip a c :=
  ⟨Nat.le_trans h.1 k.1, fun i hi hn => by rw [k.2 i (Nat.lt_of_lt_of_le hi h.1) hn, h.2 i hi hn]⟩
theorem Old.kept {ip : Nat} {a b : Mem} (h : Old a b) : Kept ip a b := ⟨h.1, fun i hi _ => h.2 i hi⟩
theorem PsAt.old {m m' : Mem} {ip it : Nat} {ts : List (Tk × Nat)} {s : PS} (h : PsAt m ip it ts s) (o : Old m m') : PsAt m' ip it ts s :=
  ⟨by rw [o.2 _ h.2.2.1]; exact h.1, by rw [o.2 _ h.2.2.2.1]; exact h.2.1, Nat.lt_of_lt_of_le h.2.2.1 o.1, Nat.lt_of_lt_of_le h.2.2.2.1 o.1, h.2.2.2.2⟩

def tok0 : Tk × Nat := (⟨0, [], 0⟩, 0)
def failF (ts : List (Tk × Nat)) (no : Nat) (s : PS) : PS := match s.err with
  | some e => s
  | none => ⟨s.k, some (no, (ts.getD s.k tok0).2)⟩
def misfit (t : Tk) (kd : Int) (tx : List UInt8) : Bool := (t.kd != kd) || (!tx.isEmpty && t.tx != tx)
def takeF (ts : List (Tk × Nat)) (kd : Int) (tx : List UInt8) (s : PS) : (Tk × Nat) × PS :=
  let s' := if misfit (ts.getD s.k tok0).1 kd tx then failF ts 2 s else s
  match s'.err with
  | some e => (tok0, s')
  | none => (ts.getD s.k tok0, ⟨s.k + 1, none⟩)

theorem c_fail {w0 : World} {m : Mem} {ip it no : Nat} {ts : List (Tk × Nat)} {s : PS} {Q : Value → Mem → Prop} (h : PsAt m ip it ts s) (hk : s.k < ts.length) (hl : ts.length ≤ 1000000)
    (hq : ∀ m', Kept ip m m' → PsAt m' ip it ts (failF ts no s) → Q (.tuple ⟨[]⟩) m') : AbC Tryd.prog w0 58 [.pointer (some ⟨ip, 0, none⟩), .int .i64 (no : Int)] m Q := by
  refine AbC_fn ok58 (by simp) ?_
  obtain ⟨h1, h2, h3, h4, h5⟩ := h
  obtain ⟨k, err⟩ := s
  have hk : k < ts.length := hk
  cases err with
  | some e =>
    have h1 : m.get ip = .own [.slice (some ⟨it, 0, none⟩) ts.length 4, .int .i64 (k : Int), faultV e.1 e.2] 75 := h1
    simp -implicitDefEqProofs (disch := first | assumption | (simp only [wnA]; done) | (simp only [wnA]; omega) | omega | fail) [rc58, ro58, wkA, retV, stabOk, dC, ev, fillD, pickCells, putAt, bnd, slD, List.getElem?_cons_zero, List.getElem?_cons_succ, dR.eq_20, Mem.cell, Mem.row, wmA, h1, faultV]
    exact hq m (Kept.refl _ _) ⟨h1, h2, h3, h4, h5⟩
  | none =>
    have h1 : m.get ip = .own [.slice (some ⟨it, 0, none⟩) ts.length 4, .int .i64 (k : Int), .nilIface] 75 := h1
    have hs : SlO m 78 4 (some it) (ts.flatMap cellP) ts.length := ⟨cellsP_len ts, h2, h4⟩
    obtain ⟨i1, q1, L1, A⟩ := tok_at hs.read hk
    have hidx : sidx 4 (.slice (some ⟨it, 0, none⟩) ts.length 4) (.int .i64 (k : Int)) = some (.pointer (some ⟨i1, q1, none⟩)) := A.idx
    have hb1 := A.len
    have hgd : ts.getD k tok0 = ts[k] := by simp [List.getD, List.getElem?_eq_getElem hk]
    simp -implicitDefEqProofs (disch := first | assumption | (simp only [wnA]; done) | (simp only [wnA]; omega) | omega | fail) [rc58, ro58, wkA, retV, stabOk, dC, ev, fillD, pickCells, putAt, bnd, slD, List.getElem?_cons_zero, List.getElem?_cons_succ, dR.eq_20, Mem.cell, Mem.row, wmA, h1, hidx, A.get, A.g3, getL A.g3]
    refine c_Wrap ?_
    simp -implicitDefEqProofs (disch := first | assumption | (simp only [wnA]; done) | (simp only [wnA]; omega) | omega | fail) [wkA, retV, stabOk, dC, ev, fillD, pickCells, putAt, bnd, slD, List.getElem?_cons_zero, List.getElem?_cons_succ, dR.eq_20, Mem.cell, Mem.row, wmA]
    refine SK_st (i := ip) (o := 2) (by simp [wkA, retV, stabOk, dC, ev, fillD, pickCells, putAt, bnd, slD, List.getElem?_cons_zero, List.getElem?_cons_succ, dR.eq_20]) (e := 75) h1 (by simp) (by simp [wkA, retV, stabOk, dC, ev, fillD, pickCells, putAt, bnd, slD, List.getElem?_cons_zero, List.getElem?_cons_succ, dR.eq_20, faultV]) (by simp [wkA, retV, stabOk, dC, ev, fillD, pickCells, putAt, bnd, slD, List.getElem?_cons_zero, List.getElem?_cons_succ, dR.eq_20, faultV, oneC]) ?_
    simp -implicitDefEqProofs (disch := first | assumption | (simp only [wnA]; done) | (simp only [wnA]; omega) | omega | fail) [wkA, retV, stabOk, dC, ev, fillD, pickCells, putAt, bnd, slD, List.getElem?_cons_zero, List.getElem?_cons_succ, dR.eq_20, Mem.cell, Mem.row, wmA, faultV]
    refine hq _ ⟨Nat.le_refl _, fun i hi hn => Mem.set_other _ _ hn⟩ ⟨?_, ?_, h3, h4, h5⟩
    · simp [failF, errV, faultV, hgd, List.getElem?_eq_getElem hk]
    · rw [Mem.set_other _ _ (fun e => h5 e.symm)]; exact h2

/-- What a take answers with, when all that was wrong is said. -/
def takeR (p : Tk × Nat) (s : PS) : (Tk × Nat) × PS := match s.err with
  | some e => (tok0, s)
  | none => (p, ⟨s.k + 1, none⟩)
theorem takeF_eq (ts : List (Tk × Nat)) (kd : Int) (tx : List UInt8) (s : PS) : takeF ts kd tx s = takeR (ts.getD s.k tok0) (if misfit (ts.getD s.k tok0).1 kd tx then failF ts 2 s else s) := by
  obtain ⟨k, err⟩ := s
  simp only [takeF, takeR]
  by_cases h : misfit (ts.getD k tok0).1 kd tx = true
  · simp only [h, if_true]
    cases err <;> simp [failF]
  · simp only [h, if_false]
    cases err <;> simp

theorem w_take1 {w0 : World} {fr : Fr} {base m : Mem} {ip it i6 i7 : Nat} {ts : List (Tk × Nat)} {p : Tk × Nat} {s : PS} {Q : AQ} (h : PsAt m ip it ts s) (hb : Kept ip base m) (hp : ip < base.next) (hpt : it < base.next) (h6 : base.next ≤ i6) (h7 : base.next ≤ i7) (h67 : i6 ≠ i7)
    (e0 : fr 0 = .pointer (some ⟨ip, 0, none⟩)) (e6 : fr 6 = .pointer (some ⟨i6, 0, none⟩)) (e7 : fr 7 = .pointer (some ⟨i7, 0, none⟩)) (g6 : m.get i6 = .own (cellP tok0) 78) (g7 : m.get i7 = .own (cellP p) 78) (hk : s.k < 1000000)
    (hQ : ∀ fr' m', fr' 6 = .pointer (some ⟨i6, 0, none⟩) → m'.get i6 = .own (cellP (takeR p s).1) 78 → Kept ip base m' → PsAt m' ip it ts (takeR p s).2 → Q .ret fr' m') : AbW Tryd.prog w0 rc42_1 Q fr m := by
  obtain ⟨k, err⟩ := s
  obtain ⟨h1, h2, h3, h4, h5⟩ := h
  have hk : k < 1000000 := hk
  have z6 : m.get i6 = .own [.int .i64 0, .string ⟨#[]⟩, .int .i64 0, .int .i64 0] 78 := g6
  cases err with
  | some e =>
    have h1 : m.get ip = .own [.slice (some ⟨it, 0, none⟩) ts.length 4, .int .i64 (k : Int), faultV e.1 e.2] 75 := h1
    simp -implicitDefEqProofs (disch := first | assumption | (simp only [wnA]; done) | (simp only [wnA]; omega) | omega | fail) [rc42_1, wkA, retV, stabOk, dC, ev, fillD, pickCells, putAt, bnd, slD, List.getElem?_cons_zero, List.getElem?_cons_succ, dR.eq_20, Mem.cell, Mem.row, wmA, e0, h1, faultV, e6]
    refine SK_st (i := i6) (o := 0) (by simp [wkA, retV, stabOk, dC, ev, fillD, pickCells, putAt, bnd, slD, List.getElem?_cons_zero, List.getElem?_cons_succ, dR.eq_20, e6]) (e := 78) z6 (by simp) (by simp [wkA, retV, stabOk, dC, ev, fillD, pickCells, putAt, bnd, slD, List.getElem?_cons_zero, List.getElem?_cons_succ, dR.eq_20]) (by simp [wkA, retV, stabOk, dC, ev, fillD, pickCells, putAt, bnd, slD, List.getElem?_cons_zero, List.getElem?_cons_succ, dR.eq_20, oneC]) ?_
    simp -implicitDefEqProofs (disch := first | assumption | (simp only [wnA]; done) | (simp only [wnA]; omega) | omega | fail) [wkA, retV, stabOk, dC, ev, fillD, pickCells, putAt, bnd, slD, List.getElem?_cons_zero, List.getElem?_cons_succ, dR.eq_20, Mem.cell, Mem.row, wmA]
    refine hQ _ _ (by first | exact e6 | simp [e6]) (by simp [takeR, tok0, cellP, Tk.cells]) ⟨hb.1, fun i hi hn => by rw [Mem.set_other _ _ (by omega)]; exact hb.2 i hi hn⟩ ⟨?_, ?_, h3, h4, h5⟩
    · rw [Mem.set_other _ _ (by omega)]; exact h1
    · rw [Mem.set_other _ _ (by omega)]; exact h2
  | none =>
    have h1 : m.get ip = .own [.slice (some ⟨it, 0, none⟩) ts.length 4, .int .i64 (k : Int), .nilIface] 75 := h1
    have w1 : IntKind.i64.wrap ((k : Int) + 1) = (k : Int) + 1 := w64 (by omega)
    have n7p : i7 ≠ ip := by omega
    have n6p : i6 ≠ ip := by omega
    simp -implicitDefEqProofs (disch := first | assumption | (simp only [wnA]; done) | (simp only [wnA]; omega) | omega | fail) [rc42_1, wkA, retV, stabOk, dC, ev, fillD, pickCells, putAt, bnd, slD, List.getElem?_cons_zero, List.getElem?_cons_succ, dR.eq_20, Mem.cell, Mem.row, wmA, e0, h1, e6, rc42_0, w1]
    refine SK_st (i := ip) (o := 1) (by simp [wkA, retV, stabOk, dC, ev, fillD, pickCells, putAt, bnd, slD, List.getElem?_cons_zero, List.getElem?_cons_succ, dR.eq_20]) (e := 75) h1 (by simp) (by simp [wkA, retV, stabOk, dC, ev, fillD, pickCells, putAt, bnd, slD, List.getElem?_cons_zero, List.getElem?_cons_succ, dR.eq_20]) (by simp [wkA, retV, stabOk, dC, ev, fillD, pickCells, putAt, bnd, slD, List.getElem?_cons_zero, List.getElem?_cons_succ, dR.eq_20, oneC]) ?_
    have a6 : (m.set ip (.own [.slice (some ⟨it, 0, none⟩) ts.length 4, .int .i64 ((k : Int) + 1), .nilIface] 75)).get i6 = .own [.int .i64 0, .string ⟨#[]⟩, .int .i64 0, .int .i64 0] 78 := by rw [Mem.set_other _ _ n6p]; exact z6
    have a7 : (m.set ip (.own [.slice (some ⟨it, 0, none⟩) ts.length 4, .int .i64 ((k : Int) + 1), .nilIface] 75)).get i7 = .own [.int .i64 p.1.kd, .string ⟨⟨p.1.tx⟩⟩, .int .i64 p.1.vl, .int .i64 (p.2 : Int)] 78 := by rw [Mem.set_other _ _ n7p]; exact g7
    have z7 : m.get i7 = .own [.int .i64 p.1.kd, .string ⟨⟨p.1.tx⟩⟩, .int .i64 p.1.vl, .int .i64 (p.2 : Int)] 78 := g7
    simp -implicitDefEqProofs (disch := first | assumption | (simp only [wnA]; done) | (simp only [wnA]; omega) | omega | fail) [wkA, retV, stabOk, dC, ev, fillD, pickCells, putAt, bnd, slD, List.getElem?_cons_zero, List.getElem?_cons_succ, dR.eq_20, Mem.cell, Mem.row, wmA, e7, e6, z7]
    refine SK_st (i := i6) (o := 0) (by simp [wkA, retV, stabOk, dC, ev, fillD, pickCells, putAt, bnd, slD, List.getElem?_cons_zero, List.getElem?_cons_succ, dR.eq_20, e6]) (e := 78) a6 (by simp) (by simp [wkA, retV, stabOk, dC, ev, fillD, pickCells, putAt, bnd, slD, List.getElem?_cons_zero, List.getElem?_cons_succ, dR.eq_20]) (by simp [wkA, retV, stabOk, dC, ev, fillD, pickCells, putAt, bnd, slD, List.getElem?_cons_zero, List.getElem?_cons_succ, dR.eq_20, oneC]) ?_
    simp -implicitDefEqProofs (disch := first | assumption | (simp only [wnA]; done) | (simp only [wnA]; omega) | omega | fail) [wkA, retV, stabOk, dC, ev, fillD, pickCells, putAt, bnd, slD, List.getElem?_cons_zero, List.getElem?_cons_succ, dR.eq_20, Mem.cell, Mem.row, wmA]
    refine hQ _ _ (by first | exact e6 | simp [e6]) (by simp [takeR, cellP, Tk.cells]) ⟨hb.1, fun i hi hn => by rw [Mem.set_other _ _ (by omega), Mem.set_other _ _ hn]; exact hb.2 i hi hn⟩ ⟨?_, ?_, h3, h4, h5⟩
    · rw [Mem.set_other _ _ (by omega)]; simp [takeR, errV]
    · rw [Mem.set_other _ _ (by omega), Mem.set_other _ _ (fun e => h5 e.symm)]; exact h2

theorem c_take {w0 : World} {m : Mem} {ip it : Nat} {ts : List (Tk × Nat)} {kd : Int} {tx : List UInt8} {s : PS} {Q : Value → Mem → Prop} (h : PsAt m ip it ts s) (hk : s.k < ts.length) (hl : ts.length ≤ 1000000)
    (hq : ∀ m', Kept ip m m' → PsAt m' ip it ts (takeF ts kd tx s).2 → Q (.agg ⟨cellP (takeF ts kd tx s).1⟩) m') : AbC Tryd.prog w0 42 [.pointer (some ⟨ip, 0, none⟩), .int .i64 kd, .string ⟨⟨tx⟩⟩] m Q := by
  refine AbC_fn ok42 (by simp) ?_
  rw [takeF_eq] at hq
  have hgd : ts.getD s.k tok0 = ts[s.k] := by simp [List.getD, List.getElem?_eq_getElem hk]
  obtain ⟨h1, h2, h3, h4, h5⟩ := h
  have hs : SlO m 78 4 (some it) (ts.flatMap cellP) ts.length := ⟨cellsP_len ts, h2, h4⟩
  have hidx : sidx 4 (.slice (some ⟨it, 0, none⟩) ts.length 4) (.int .i64 (s.k : Int)) = some (.pointer (some ⟨it, 0 + s.k * 4, none⟩)) := sidx_at hk
  rw [Nat.zero_add] at hidx
  have hb1 : s.k * 4 + 4 ≤ (ts.flatMap cellP).length := by rw [cellsP_len]; omega
  have hg : ((ts.flatMap cellP).drop (s.k * 4)).take 4 = cellP ts[s.k] := flat_at cellP_len ts (List.getElem?_eq_getElem hk)
  rw [hgd] at hq
  clear hgd
  generalize ts[s.k] = p at *
  obtain ⟨⟨kd0, tx0, vl0⟩, at0⟩ := p
  obtain ⟨L, hL⟩ : ∃ L, ts.flatMap cellP = L := ⟨_, rfl⟩
  rw [hL] at h2 hg hb1
  have hg : (L.drop (s.k * 4)).take 4 = [.int .i64 kd0, .string ⟨⟨tx0⟩⟩, .int .i64 vl0, .int .i64 (at0 : Int)] := hg
  simp -implicitDefEqProofs (disch := first | assumption | (simp only [wnA]; done) | (simp only [wnA]; omega) | omega | fail) [rc42, ro42, wkA, retV, stabOk, dC, ev, fillD, pickCells, putAt, bnd, slD, List.getElem?_cons_zero, List.getElem?_cons_succ, dR.eq_20, Mem.cell, Mem.row, wmA, h1, h2, hidx, hg, hb1]
  refine SK_st (i := m.next + 1) (o := 0) (by simp [wkA, retV, stabOk, dC, ev, fillD, pickCells, putAt, bnd, slD, List.getElem?_cons_zero, List.getElem?_cons_succ, dR.eq_20]) (e := 78) (by simp -implicitDefEqProofs (disch := first | assumption | (simp only [wnA]; done) | (simp only [wnA]; omega) | omega | fail) [wkA, retV, stabOk, dC, ev, fillD, pickCells, putAt, bnd, slD, List.getElem?_cons_zero, List.getElem?_cons_succ, dR.eq_20, Mem.cell, Mem.row, wmA]; rfl) (by simp) (by simp [wkA, retV, stabOk, dC, ev, fillD, pickCells, putAt, bnd, slD, List.getElem?_cons_zero, List.getElem?_cons_succ, dR.eq_20]) (by simp [wkA, retV, stabOk, dC, ev, fillD, pickCells, putAt, bnd, slD, List.getElem?_cons_zero, List.getElem?_cons_succ, dR.eq_20, oneC]) ?_
  simp -implicitDefEqProofs (disch := first | assumption | (simp only [wnA]; done) | (simp only [wnA]; omega) | omega | fail) [wkA, retV, stabOk, dC, ev, fillD, pickCells, putAt, bnd, slD, List.getElem?_cons_zero, List.getElem?_cons_succ, dR.eq_20, Mem.cell, Mem.row, wmA]
  obtain ⟨M, hM⟩ : ∃ M, ((m.push (.own [.int .i64 0, .string ⟨#[]⟩, .int .i64 0, .int .i64 0] 78)).push (.own [.int .i64 0, .string ⟨#[]⟩, .int .i64 0, .int .i64 0] 78)).set (m.next + 1) (.own [.int .i64 kd0, .string ⟨⟨tx0⟩⟩, .int .i64 vl0, .int .i64 (at0 : Int)] 78) = M := ⟨_, rfl⟩
  have oM : Old m M := by subst hM; exact (((Old.refl m).push _).push _).set (by omega) _
  have g6 : M.get m.next = .own [.int .i64 0, .string ⟨#[]⟩, .int .i64 0, .int .i64 0] 78 := by subst hM; rw [Mem.set_other _ _ (by omega), Mem.push_old _ _ (by simp), Mem.push_same]
  have g7 : M.get (m.next + 1) = .own [.int .i64 kd0, .string ⟨⟨tx0⟩⟩, .int .i64 vl0, .int .i64 (at0 : Int)] 78 := by subst hM; rw [Mem.set_same]
  have nM : m.next + 2 ≤ M.next := by subst hM; simp
  simp only [hM]
  clear hM
  have pM : PsAt M ip it ts s := PsAt.old ⟨h1, by rw [hL]; exact h2, h3, h4, h5⟩ oM
  have go : ∀ (s' : PS) (fr : Fr) (m1 : Mem), s'.k < 1000000 → (if misfit ⟨kd0, tx0, vl0⟩ kd tx then failF ts 2 s else s) = s' → Kept ip m m1 → PsAt m1 ip it ts s' → m1.get m.next = M.get m.next → m1.get (m.next + 1) = M.get (m.next + 1) → fr 0 = .pointer (some ⟨ip, 0, none⟩) → fr 6 = .pointer (some ⟨m.next, 0, none⟩) → fr 7 = .pointer (some ⟨m.next + 1, 0, none⟩) → AbW Tryd.prog w0 rc42_1 (bodyA [.ldn 4 (.tmp 6)] Q) fr m1 := fun s' fr m1 hk' hs' hK hP e6' e7' f0 f6 f7 =>
    w_take1 (p := (⟨kd0, tx0, vl0⟩, at0)) hP hK h3 h4 (Nat.le_refl _) (by omega) (by omega) f0 f6 f7 (by rw [e6', g6]; rfl) (by rw [e7', g7]; rfl) hk' fun fr' m' x6 gx kx px => by
      have gx : m'.get m.next = .own (cellP (takeR (⟨kd0, tx0, vl0⟩, at0) s').1) 78 := gx
      have hq := hq m' kx (by rw [hs']; exact px)
      rw [hs'] at hq
      have hlen : 4 ≤ (cellP (takeR (⟨kd0, tx0, vl0⟩, at0) s').1).length := by rw [cellP_len]; omega
      have htk : (cellP (takeR (⟨kd0, tx0, vl0⟩, at0) s').1).take 4 = cellP (takeR (⟨kd0, tx0, vl0⟩, at0) s').1 := List.take_of_length_le (by rw [cellP_len]; omega)
      generalize cellP (takeR (⟨kd0, tx0, vl0⟩, at0) s').1 = C at *
      simp -implicitDefEqProofs (disch := first | assumption | (simp only [wnA]; done) | (simp only [wnA]; omega) | omega | fail) [wkA, retV, stabOk, dC, ev, fillD, pickCells, putAt, bnd, slD, List.getElem?_cons_zero, List.getElem?_cons_succ, dR.eq_20, Mem.cell, Mem.row, wmA, x6, gx, hlen, htk]
      exact hq
  have kk : (failF ts 2 s).k = s.k := by unfold failF; cases s.err <;> rfl
  have fl : ∀ (m2 : Mem), Kept ip M m2 → Kept ip m m2 ∧ m2.get m.next = M.get m.next ∧ m2.get (m.next + 1) = M.get (m.next + 1) := fun m2 k2 =>
    ⟨oM.kept.trans k2, k2.2 _ (by omega) (by omega), k2.2 _ (by omega) (by omega)⟩
  by_cases c1 : kd0 = kd
  · by_cases c2 : tx = []
    · simp -implicitDefEqProofs (disch := first | assumption | (simp only [wnA]; done) | (simp only [wnA]; omega) | omega | fail) [wkA, retV, stabOk, dC, ev, fillD, pickCells, putAt, bnd, slD, List.getElem?_cons_zero, List.getElem?_cons_succ, dR.eq_20, Mem.cell, Mem.row, wmA, c1, c2]
      exact go s _ M (by omega) (by simp [misfit, c1, c2]) oM.kept pM rfl rfl (by simp [frA_at]) (by simp) (by simp)
    · have c2' : tx.isEmpty = false := by cases tx <;> simp at c2 ⊢
      by_cases c3 : tx0 = tx
      · simp -implicitDefEqProofs (disch := first | assumption | (simp only [wnA]; done) | (simp only [wnA]; omega) | omega | fail) [wkA, retV, stabOk, dC, ev, fillD, pickCells, putAt, bnd, slD, List.getElem?_cons_zero, List.getElem?_cons_succ, dR.eq_20, Mem.cell, Mem.row, wmA, c1, c2', c3, g7]
        exact go s _ M (by omega) (by simp [misfit, c1, c2', c3]) oM.kept pM rfl rfl (by simp [frA_at]) (by simp) (by simp)
      · have c3' : (tx0 == tx) = false := by simpa using c3
        simp -implicitDefEqProofs (disch := first | assumption | (simp only [wnA]; done) | (simp only [wnA]; omega) | omega | fail) [wkA, retV, stabOk, dC, ev, fillD, pickCells, putAt, bnd, slD, List.getElem?_cons_zero, List.getElem?_cons_succ, dR.eq_20, Mem.cell, Mem.row, wmA, c1, c2', c3', g7]
        refine c_fail (no := 2) pM hk hl fun m2 k2 p2 => ?_
        obtain ⟨x1, x2, x3⟩ := fl m2 k2
        simp -implicitDefEqProofs (disch := first | assumption | (simp only [wnA]; done) | (simp only [wnA]; omega) | omega | fail) [wkA, retV, stabOk, dC, ev, fillD, pickCells, putAt, bnd, slD, List.getElem?_cons_zero, List.getElem?_cons_succ, dR.eq_20, Mem.cell, Mem.row, wmA]
        exact go (failF ts 2 s) _ m2 (by omega) (by simp [misfit, c1, c2', c3, c3']) x1 p2 x2 x3 (by simp [frA_at]) (by simp) (by simp)
  · simp -implicitDefEqProofs (disch := first | assumption | (simp only [wnA]; done) | (simp only [wnA]; omega) | omega | fail) [wkA, retV, stabOk, dC, ev, fillD, pickCells, putAt, bnd, slD, List.getElem?_cons_zero, List.getElem?_cons_succ, dR.eq_20, Mem.cell, Mem.row, wmA, bneT c1]
    refine c_fail (no := 2) pM hk hl fun m2 k2 p2 => ?_
    obtain ⟨x1, x2, x3⟩ := fl m2 k2
    simp -implicitDefEqProofs (disch := first | assumption | (simp only [wnA]; done) | (simp only [wnA]; omega) | omega | fail) [wkA, retV, stabOk, dC, ev, fillD, pickCells, putAt, bnd, slD, List.getElem?_cons_zero, List.getElem?_cons_succ, dR.eq_20, Mem.cell, Mem.row, wmA]
    exact go (failF ts 2 s) _ m2 (by omega) (by simp [misfit, bneT c1]) x1 p2 x2 x3 (by simp [frA_at]) (by simp) (by simp)
end Go.Proofs.YtgfkjldohilmkaaDoor.Ab
/- A manifest's text is read: an entry. -/
set_option linter.unusedVariables false
set_option linter.unusedSimpArgs false
namespace Go.Proofs.YtgfkjldohilmkaaDoor.Ab
open Go Go.RowKit
set_option maxHeartbeats 4000000
set_option maxRecDepth 100000

def wayOf (t : List UInt8) : Option Nat := if t = wayL 0 then some 0 else if t = wayL 1 then some 1 else if t = wayL 2 then some 2 else if t = wayL 3 then some 3 else none
def nameF (w : (Tk × Nat) × PS) : PS := match w.2.err with
  | some e => w.2
  | none => ⟨w.2.k, some (3, w.1.2)⟩
def entryF (ts : List (Tk × Nat)) (s : PS) : En × PS :=
  let r0 := takeF ts 1 [105, 109, 97, 103, 101] s
  let r1 := takeF ts 3 [] r0.2
  let r2 := takeF ts 1 [97, 116] r1.2
  let r3 := takeF ts 2 [] r2.2
  let r4 := takeF ts 1 [115, 105, 122, 101] r3.2
  let r5 := takeF ts 2 [] r4.2
  let r6 := takeF ts 1 [112, 114, 105, 110, 116] r5.2
  let r7 := takeF ts 2 [] r6.2
  let r8 := takeF ts 1 [98, 121] r7.2
  let r9 := takeF ts 1 [] r8.2
  match wayOf r9.1.1.tx with
  | some k => (⟨⟨⟨r1.1.1.tx⟩⟩, r3.1.1.vl, r5.1.1.vl, IntKind.u32.wrap r7.1.1.vl, (k : Int)⟩, (takeF ts 4 [59] r9.2).2)
  | none => (⟨⟨⟨r1.1.1.tx⟩⟩, r3.1.1.vl, r5.1.1.vl, IntKind.u32.wrap r7.1.1.vl, 0⟩, nameF r9)
theorem failF_k (ts : List (Tk × Nat)) (no : Nat) (s : PS) : (failF ts no s).k = s.k := by unfold failF; cases s.err <;> rfl
/-- The last token is the text's end. -/
def EndOk (ts : List (Tk × Nat)) : Prop := (ts.getD (ts.length - 1) tok0).1.kd = 0
theorem takeF_k {ts : List (Tk × Nat)} {kd : Int} {tx : List UInt8} {s : PS} (he : EndOk ts) (hk : s.k < ts.length) (h0 : kd ≠ 0) : (takeF ts kd tx s).2.k < ts.length := by
  rw [takeF_eq]
  unfold takeR
  split
  · split
    · rw [failF_k]; exact hk
    · exact hk
  · rename_i h
    split at h
    · exfalso
      unfold failF at h
      split at h
      · rename_i e he'; rw [he'] at h; cases h
      · cases h
    · rename_i hm
      rw [if_neg hm]
      have hkd : (ts.getD s.k tok0).1.kd = kd := by
        rcases Classical.em ((ts.getD s.k tok0).1.kd = kd) with h | h
        · exact h
        · exact absurd (show misfit (ts.getD s.k tok0).1 kd tx = true by unfold misfit; rw [bneT h]; rfl) hm
      have : s.k ≠ ts.length - 1 := fun e => h0 (by rw [← hkd, e]; exact he)
      show s.k + 1 < ts.length
      omega

theorem cellP_mk (kd : Int) (tx : List UInt8) (vl : Int) (a : Nat) : cellP (⟨kd, tx, vl⟩, a) = [.int .i64 kd, .string ⟨⟨tx⟩⟩, .int .i64 vl, .int .i64 (a : Int)] := rfl
theorem step_set {base m : Mem} {ip it i3 : Nat} {ts : List (Tk × Nat)} {s : PS} {x : Ent} (KB : Kept ip base m) (p : PsAt m ip it ts s) (h3 : base.next ≤ i3) (hip : ip < base.next) (hit : it < base.next) :
    ∃ M, m.set i3 x = M ∧ Kept ip base M ∧ PsAt M ip it ts s ∧ M.get i3 = x ∧ (∀ i, i ≠ i3 → M.get i = m.get i) ∧ M.next = m.next :=
  ⟨_, rfl, ⟨KB.1, fun i hi hn => by rw [Mem.set_other _ _ (by omega)]; exact KB.2 i hi hn⟩, ⟨by rw [Mem.set_other _ _ (by omega)]; exact p.1, by rw [Mem.set_other _ _ (by omega)]; exact p.2.1, p.2.2.1, p.2.2.2.1, p.2.2.2.2⟩, by rw [Mem.set_same], fun i hi => Mem.set_other _ _ hi, rfl⟩
theorem step_new {base m : Mem} {ip it : Nat} {ts : List (Tk × Nat)} {s : PS} {x z : Ent} (KB : Kept ip base m) (p : PsAt m ip it ts s) (hip : ip < base.next) (hit : it < base.next) :
    ∃ M, (m.push z).set m.next x = M ∧ Kept ip base M ∧ PsAt M ip it ts s ∧ M.get m.next = x ∧ (∀ i, i < m.next → M.get i = m.get i) ∧ M.next = m.next + 1 := by
  have KB' : Kept ip base (m.push z) := ⟨by have := KB.1; simp; omega, fun i hi hn => by rw [Mem.push_old _ _ (by have := KB.1; omega)]; exact KB.2 i hi hn⟩
  have p' : PsAt (m.push z) ip it ts s := p.old ((Old.refl m).push _)
  obtain ⟨M, h1, h2, h3, h4, h5, h6⟩ := step_set (x := x) (i3 := m.next) KB' p' KB.1 hip hit
  exact ⟨M, h1, h2, h3, h4, fun i hi => by rw [h5 i (by omega), Mem.push_old _ _ hi], h6⟩

theorem c_entry {w0 : World} {m : Mem} {ip it : Nat} {ts : List (Tk × Nat)} {s : PS} {Q : Value → Mem → Prop} (h : PsAt m ip it ts s) (hk : s.k < ts.length) (hl : ts.length ≤ 1000000) (hE : EndOk ts)
    (hq : ∀ m', Kept ip m m' → PsAt m' ip it ts (entryF ts s).2 → Q (.agg ⟨(entryF ts s).1.cells⟩) m') : AbC Tryd.prog w0 30 [.pointer (some ⟨ip, 0, none⟩)] m Q := by
  refine AbC_fn ok30 (by simp) ?_
  simp -implicitDefEqProofs (disch := first | assumption | (simp only [wnA]; done) | (simp only [wnA]; omega) | omega | fail) [rc30, ro30, wkA, retV, stabOk, dC, ev, fillD, pickCells, putAt, bnd, slD, List.getElem?_cons_zero, List.getElem?_cons_succ, dR.eq_20, Mem.cell, Mem.row, wmA]
  obtain ⟨b, hb⟩ : ∃ b, m.push (.own [.string ⟨#[]⟩, .int .i64 0, .int .i64 0, .int .u32 0, .int .i64 0] 36) = b := ⟨_, rfl⟩
  have oB : Old m b := by subst hb; exact (Old.refl m).push _
  have g2 : b.get m.next = .own [.string ⟨#[]⟩, .int .i64 0, .int .i64 0, .int .u32 0, .int .i64 0] 36 := by subst hb; rw [Mem.push_same]
  have nB : b.next = m.next + 1 := by subst hb; rfl
  simp only [hb]
  clear hb
  have pB := h.old oB
  have hip := h.2.2.1
  have hit := h.2.2.2.1
  have KB : Kept ip m b := oB.kept
  refine c_take (kd := 1) (tx := [105, 109, 97, 103, 101]) pB hk hl fun m0 k0 p0 => ?_
  have K0 := takeF_k (kd := 1) (tx := [105, 109, 97, 103, 101]) hE hk (by decide)
  generalize hr0 : takeF ts 1 [105, 109, 97, 103, 101] s = r0 at *
  obtain ⟨⟨⟨kd0, tx0, vl0⟩, at0⟩, s0⟩ := r0
  simp only at p0 K0
  have N0 := k0.1
  have g2_0 := (k0.2 m.next (by omega) (by omega)).trans g2
  have KB0 := KB.trans k0
  simp -implicitDefEqProofs (disch := first | assumption | (simp only [wnA]; done) | (simp only [wnA]; omega) | omega | fail) [wkA, retV, stabOk, dC, ev, fillD, pickCells, putAt, bnd, slD, List.getElem?_cons_zero, List.getElem?_cons_succ, dR.eq_20, Mem.cell, Mem.row, wmA, cellP_mk]
  refine c_take (kd := 3) (tx := []) p0 K0 hl fun m1 k1 p1 => ?_
  have K1 := takeF_k (kd := 3) (tx := []) hE K0 (by decide)
  generalize hr1 : takeF ts 3 [] s0 = r1 at *
  obtain ⟨⟨⟨kd1, tx1, vl1⟩, at1⟩, s1⟩ := r1
  simp only at p1 K1
  have N1 := k1.1
  have g2_1 := (k1.2 m.next (by omega) (by omega)).trans g2_0
  have KB1 := KB0.trans k1
  simp -implicitDefEqProofs (disch := first | assumption | (simp only [wnA]; done) | (simp only [wnA]; omega) | omega | fail) [wkA, retV, stabOk, dC, ev, fillD, pickCells, putAt, bnd, slD, List.getElem?_cons_zero, List.getElem?_cons_succ, dR.eq_20, Mem.cell, Mem.row, wmA, cellP_mk]
  refine SK_st (i := m1.next) (o := 0) (by simp [wkA, retV, stabOk, dC, ev, fillD, pickCells, putAt, bnd, slD, List.getElem?_cons_zero, List.getElem?_cons_succ, dR.eq_20]) (e := 36) (by simp -implicitDefEqProofs (disch := first | assumption | (simp only [wnA]; done) | (simp only [wnA]; omega) | omega | fail) [Mem.cell, Mem.row, wmA]; rfl) (by simp) (by simp [wkA, retV, stabOk, dC, ev, fillD, pickCells, putAt, bnd, slD, List.getElem?_cons_zero, List.getElem?_cons_succ, dR.eq_20]) (by simp [wkA, retV, stabOk, dC, ev, fillD, pickCells, putAt, bnd, slD, List.getElem?_cons_zero, List.getElem?_cons_succ, dR.eq_20, oneC]) ?_
  simp -implicitDefEqProofs (disch := first | assumption | (simp only [wnA]; done) | (simp only [wnA]; omega) | omega | fail) [wkA, retV, stabOk, dC, ev, fillD, pickCells, putAt, bnd, slD, List.getElem?_cons_zero, List.getElem?_cons_succ, dR.eq_20, Mem.cell, Mem.row, wmA]
  obtain ⟨M1, hM1, KB1', p1', g3_1', hk1, nM1⟩ := step_new (x := .own [.string ⟨⟨tx1⟩⟩, .int .i64 0, .int .i64 0, .int .u32 0, .int .i64 0] 36) (z := .own [.string ⟨#[]⟩, .int .i64 0, .int .i64 0, .int .u32 0, .int .i64 0] 36) KB1 p1 hip hit
  have g2_1' := (hk1 m.next (by omega)).trans g2_1
  simp only [hM1]
  obtain ⟨i3, hi3⟩ : ∃ i3, m1.next = i3 := ⟨_, rfl⟩
  simp only [hi3] at *
  refine c_take (kd := 1) (tx := [97, 116]) p1' K1 hl fun m2 k2 p2 => ?_
  have K2 := takeF_k (kd := 1) (tx := [97, 116]) hE K1 (by decide)
  generalize hr2 : takeF ts 1 [97, 116] s1 = r2 at *
  obtain ⟨⟨⟨kd2, tx2, vl2⟩, at2⟩, s2⟩ := r2
  simp only at p2 K2
  have N2 := k2.1
  have g2_2 := (k2.2 m.next (by omega) (by omega)).trans g2_1'
  have g3_2 := (k2.2 i3 (by omega) (by omega)).trans g3_1'
  have KB2 := KB1'.trans k2
  simp -implicitDefEqProofs (disch := first | assumption | (simp only [wnA]; done) | (simp only [wnA]; omega) | omega | fail) [wkA, retV, stabOk, dC, ev, fillD, pickCells, putAt, bnd, slD, List.getElem?_cons_zero, List.getElem?_cons_succ, dR.eq_20, Mem.cell, Mem.row, wmA, cellP_mk]
  refine c_take (kd := 2) (tx := []) p2 K2 hl fun m3 k3 p3 => ?_
  have K3 := takeF_k (kd := 2) (tx := []) hE K2 (by decide)
  generalize hr3 : takeF ts 2 [] s2 = r3 at *
  obtain ⟨⟨⟨kd3, tx3, vl3⟩, at3⟩, s3⟩ := r3
  simp only at p3 K3
  have N3 := k3.1
  have g2_3 := (k3.2 m.next (by omega) (by omega)).trans g2_2
  have g3_3 := (k3.2 i3 (by omega) (by omega)).trans g3_2
  have KB3 := KB2.trans k3
  simp -implicitDefEqProofs (disch := first | assumption | (simp only [wnA]; done) | (simp only [wnA]; omega) | omega | fail) [wkA, retV, stabOk, dC, ev, fillD, pickCells, putAt, bnd, slD, List.getElem?_cons_zero, List.getElem?_cons_succ, dR.eq_20, Mem.cell, Mem.row, wmA, cellP_mk]
  refine SK_st (i := i3) (o := 1) (by simp [wkA, retV, stabOk, dC, ev, fillD, pickCells, putAt, bnd, slD, List.getElem?_cons_zero, List.getElem?_cons_succ, dR.eq_20]) (e := 36) g3_3 (by simp) (by simp [wkA, retV, stabOk, dC, ev, fillD, pickCells, putAt, bnd, slD, List.getElem?_cons_zero, List.getElem?_cons_succ, dR.eq_20]) (by simp [wkA, retV, stabOk, dC, ev, fillD, pickCells, putAt, bnd, slD, List.getElem?_cons_zero, List.getElem?_cons_succ, dR.eq_20, oneC]) ?_
  simp -implicitDefEqProofs (disch := first | assumption | (simp only [wnA]; done) | (simp only [wnA]; omega) | omega | fail) [wkA, retV, stabOk, dC, ev, fillD, pickCells, putAt, bnd, slD, List.getElem?_cons_zero, List.getElem?_cons_succ, dR.eq_20, Mem.cell, Mem.row, wmA]
  obtain ⟨M3, hM3, KB3', p3', g3_3', hk3, nM3⟩ := step_set (x := .own [.string ⟨⟨tx1⟩⟩, .int .i64 vl3, .int .i64 0, .int .u32 0, .int .i64 0] 36) (i3 := i3) KB3 p3 (by omega) hip hit
  have g2_3' := (hk3 m.next (by omega)).trans g2_3
  simp only [hM3]
  refine c_take (kd := 1) (tx := [115, 105, 122, 101]) p3' K3 hl fun m4 k4 p4 => ?_
  have K4 := takeF_k (kd := 1) (tx := [115, 105, 122, 101]) hE K3 (by decide)
  generalize hr4 : takeF ts 1 [115, 105, 122, 101] s3 = r4 at *
  obtain ⟨⟨⟨kd4, tx4, vl4⟩, at4⟩, s4⟩ := r4
  simp only at p4 K4
  have N4 := k4.1
  have g2_4 := (k4.2 m.next (by omega) (by omega)).trans g2_3'
  have g3_4 := (k4.2 i3 (by omega) (by omega)).trans g3_3'
  have KB4 := KB3'.trans k4
  simp -implicitDefEqProofs (disch := first | assumption | (simp only [wnA]; done) | (simp only [wnA]; omega) | omega | fail) [wkA, retV, stabOk, dC, ev, fillD, pickCells, putAt, bnd, slD, List.getElem?_cons_zero, List.getElem?_cons_succ, dR.eq_20, Mem.cell, Mem.row, wmA, cellP_mk]
  refine c_take (kd := 2) (tx := []) p4 K4 hl fun m5 k5 p5 => ?_
  have K5 := takeF_k (kd := 2) (tx := []) hE K4 (by decide)
  generalize hr5 : takeF ts 2 [] s4 = r5 at *
  obtain ⟨⟨⟨kd5, tx5, vl5⟩, at5⟩, s5⟩ := r5
  simp only at p5 K5
  have N5 := k5.1
  have g2_5 := (k5.2 m.next (by omega) (by omega)).trans g2_4
  have g3_5 := (k5.2 i3 (by omega) (by omega)).trans g3_4
  have KB5 := KB4.trans k5
  simp -implicitDefEqProofs (disch := first | assumption | (simp only [wnA]; done) | (simp only [wnA]; omega) | omega | fail) [wkA, retV, stabOk, dC, ev, fillD, pickCells, putAt, bnd, slD, List.getElem?_cons_zero, List.getElem?_cons_succ, dR.eq_20, Mem.cell, Mem.row, wmA, cellP_mk]
  refine SK_st (i := i3) (o := 2) (by simp [wkA, retV, stabOk, dC, ev, fillD, pickCells, putAt, bnd, slD, List.getElem?_cons_zero, List.getElem?_cons_succ, dR.eq_20]) (e := 36) g3_5 (by simp) (by simp [wkA, retV, stabOk, dC, ev, fillD, pickCells, putAt, bnd, slD, List.getElem?_cons_zero, List.getElem?_cons_succ, dR.eq_20]) (by simp [wkA, retV, stabOk, dC, ev, fillD, pickCells, putAt, bnd, slD, List.getElem?_cons_zero, List.getElem?_cons_succ, dR.eq_20, oneC]) ?_
  simp -implicitDefEqProofs (disch := first | assumption | (simp only [wnA]; done) | (simp only [wnA]; omega) | omega | fail) [wkA, retV, stabOk, dC, ev, fillD, pickCells, putAt, bnd, slD, List.getElem?_cons_zero, List.getElem?_cons_succ, dR.eq_20, Mem.cell, Mem.row, wmA]
  obtain ⟨M5, hM5, KB5', p5', g3_5', hk5, nM5⟩ := step_set (x := .own [.string ⟨⟨tx1⟩⟩, .int .i64 vl3, .int .i64 vl5, .int .u32 0, .int .i64 0] 36) (i3 := i3) KB5 p5 (by omega) hip hit
  have g2_5' := (hk5 m.next (by omega)).trans g2_5
  simp only [hM5]
  refine c_take (kd := 1) (tx := [112, 114, 105, 110, 116]) p5' K5 hl fun m6 k6 p6 => ?_
  have K6 := takeF_k (kd := 1) (tx := [112, 114, 105, 110, 116]) hE K5 (by decide)
  generalize hr6 : takeF ts 1 [112, 114, 105, 110, 116] s5 = r6 at *
  obtain ⟨⟨⟨kd6, tx6, vl6⟩, at6⟩, s6⟩ := r6
  simp only at p6 K6
  have N6 := k6.1
  have g2_6 := (k6.2 m.next (by omega) (by omega)).trans g2_5'
  have g3_6 := (k6.2 i3 (by omega) (by omega)).trans g3_5'
  have KB6 := KB5'.trans k6
  simp -implicitDefEqProofs (disch := first | assumption | (simp only [wnA]; done) | (simp only [wnA]; omega) | omega | fail) [wkA, retV, stabOk, dC, ev, fillD, pickCells, putAt, bnd, slD, List.getElem?_cons_zero, List.getElem?_cons_succ, dR.eq_20, Mem.cell, Mem.row, wmA, cellP_mk]
  refine c_take (kd := 2) (tx := []) p6 K6 hl fun m7 k7 p7 => ?_
  have K7 := takeF_k (kd := 2) (tx := []) hE K6 (by decide)
  generalize hr7 : takeF ts 2 [] s6 = r7 at *
  obtain ⟨⟨⟨kd7, tx7, vl7⟩, at7⟩, s7⟩ := r7
  simp only at p7 K7
  have N7 := k7.1
  have g2_7 := (k7.2 m.next (by omega) (by omega)).trans g2_6
  have g3_7 := (k7.2 i3 (by omega) (by omega)).trans g3_6
  have KB7 := KB6.trans k7
  simp -implicitDefEqProofs (disch := first | assumption | (simp only [wnA]; done) | (simp only [wnA]; omega) | omega | fail) [wkA, retV, stabOk, dC, ev, fillD, pickCells, putAt, bnd, slD, List.getElem?_cons_zero, List.getElem?_cons_succ, dR.eq_20, Mem.cell, Mem.row, wmA, cellP_mk]
  refine SK_st (i := i3) (o := 3) (by simp [wkA, retV, stabOk, dC, ev, fillD, pickCells, putAt, bnd, slD, List.getElem?_cons_zero, List.getElem?_cons_succ, dR.eq_20]) (e := 36) g3_7 (by simp) (by simp [wkA, retV, stabOk, dC, ev, fillD, pickCells, putAt, bnd, slD, List.getElem?_cons_zero, List.getElem?_cons_succ, dR.eq_20]) (by simp [wkA, retV, stabOk, dC, ev, fillD, pickCells, putAt, bnd, slD, List.getElem?_cons_zero, List.getElem?_cons_succ, dR.eq_20, oneC]) ?_
  simp -implicitDefEqProofs (disch := first | assumption | (simp only [wnA]; done) | (simp only [wnA]; omega) | omega | fail) [wkA, retV, stabOk, dC, ev, fillD, pickCells, putAt, bnd, slD, List.getElem?_cons_zero, List.getElem?_cons_succ, dR.eq_20, Mem.cell, Mem.row, wmA]
  obtain ⟨M7, hM7, KB7', p7', g3_7', hk7, nM7⟩ := step_set (x := .own [.string ⟨⟨tx1⟩⟩, .int .i64 vl3, .int .i64 vl5, .int .u32 (IntKind.u32.wrap vl7), .int .i64 0] 36) (i3 := i3) KB7 p7 (by omega) hip hit
  have g2_7' := (hk7 m.next (by omega)).trans g2_7
  simp only [hM7]
  refine c_take (kd := 1) (tx := [98, 121]) p7' K7 hl fun m8 k8 p8 => ?_
  have K8 := takeF_k (kd := 1) (tx := [98, 121]) hE K7 (by decide)
  generalize hr8 : takeF ts 1 [98, 121] s7 = r8 at *
  obtain ⟨⟨⟨kd8, tx8, vl8⟩, at8⟩, s8⟩ := r8
  simp only at p8 K8
  have N8 := k8.1
  have g2_8 := (k8.2 m.next (by omega) (by omega)).trans g2_7'
  have g3_8 := (k8.2 i3 (by omega) (by omega)).trans g3_7'
  have KB8 := KB7'.trans k8
  simp -implicitDefEqProofs (disch := first | assumption | (simp only [wnA]; done) | (simp only [wnA]; omega) | omega | fail) [wkA, retV, stabOk, dC, ev, fillD, pickCells, putAt, bnd, slD, List.getElem?_cons_zero, List.getElem?_cons_succ, dR.eq_20, Mem.cell, Mem.row, wmA, cellP_mk]
  refine c_take (kd := 1) (tx := []) p8 K8 hl fun m9 k9 p9 => ?_
  have K9 := takeF_k (kd := 1) (tx := []) hE K8 (by decide)
  generalize hr9 : takeF ts 1 [] s8 = r9 at *
  obtain ⟨⟨⟨kd9, tx9, vl9⟩, at9⟩, s9⟩ := r9
  simp only at p9 K9
  have N9 := k9.1
  have g2_9 := (k9.2 m.next (by omega) (by omega)).trans g2_8
  have g3_9 := (k9.2 i3 (by omega) (by omega)).trans g3_8
  have KB9 := KB8.trans k9
  simp -implicitDefEqProofs (disch := first | assumption | (simp only [wnA]; done) | (simp only [wnA]; omega) | omega | fail) [wkA, retV, stabOk, dC, ev, fillD, pickCells, putAt, bnd, slD, List.getElem?_cons_zero, List.getElem?_cons_succ, dR.eq_20, Mem.cell, Mem.row, wmA, cellP_mk]
  refine SK_st (i := m9.next) (o := 0) (by simp [wkA, retV, stabOk, dC, ev, fillD, pickCells, putAt, bnd, slD, List.getElem?_cons_zero, List.getElem?_cons_succ, dR.eq_20]) (e := 78) (by simp -implicitDefEqProofs (disch := first | assumption | (simp only [wnA]; done) | (simp only [wnA]; omega) | omega | fail) [Mem.cell, Mem.row, wmA]; rfl) (by simp) (by simp [wkA, retV, stabOk, dC, ev, fillD, pickCells, putAt, bnd, slD, List.getElem?_cons_zero, List.getElem?_cons_succ, dR.eq_20]) (by simp [wkA, retV, stabOk, dC, ev, fillD, pickCells, putAt, bnd, slD, List.getElem?_cons_zero, List.getElem?_cons_succ, dR.eq_20, oneC]) ?_
  simp -implicitDefEqProofs (disch := first | assumption | (simp only [wnA]; done) | (simp only [wnA]; omega) | omega | fail) [wkA, retV, stabOk, dC, ev, fillD, pickCells, putAt, bnd, slD, List.getElem?_cons_zero, List.getElem?_cons_succ, dR.eq_20, Mem.cell, Mem.row, wmA]
  obtain ⟨M9, hM9, KB9', p9', g4_9', hk9, nM9⟩ := step_new (x := .own [.int .i64 kd9, .string ⟨⟨tx9⟩⟩, .int .i64 vl9, .int .i64 (at9 : Int)] 78) (z := .own [.int .i64 0, .string ⟨#[]⟩, .int .i64 0, .int .i64 0] 78) KB9 p9 hip hit
  have g2_9' := (hk9 m.next (by omega)).trans g2_9
  have g3_9' := (hk9 i3 (by omega)).trans g3_9
  simp only [hM9]
  obtain ⟨i4, hi4⟩ : ∃ i4, m9.next = i4 := ⟨_, rfl⟩
  simp only [hi4] at *
  refine c_Ways ?_
  simp -implicitDefEqProofs (disch := first | assumption | (simp only [wnA]; done) | (simp only [wnA]; omega) | omega | fail) [wkA, retV, stabOk, dC, ev, fillD, pickCells, putAt, bnd, slD, List.getElem?_cons_zero, List.getElem?_cons_succ, dR.eq_20, Mem.cell, Mem.row, wmA]
  obtain ⟨MW, hMW⟩ : ∃ MW, M9.push (.own [.string ⟨⟨wayL 0⟩⟩, .string ⟨⟨wayL 1⟩⟩, .string ⟨⟨wayL 2⟩⟩, .string ⟨⟨wayL 3⟩⟩] 9) = MW := ⟨_, rfl⟩
  have oW : Old M9 MW := by subst hMW; exact (Old.refl M9).push _
  have gW : MW.get M9.next = .own [.string ⟨⟨wayL 0⟩⟩, .string ⟨⟨wayL 1⟩⟩, .string ⟨⟨wayL 2⟩⟩, .string ⟨⟨wayL 3⟩⟩] 9 := by subst hMW; rw [Mem.push_same]
  have g2W := (oW.2 m.next (by omega)).trans g2_9'
  have g3W := (oW.2 i3 (by omega)).trans g3_9'
  have g4W := (oW.2 i4 (by omega)).trans g4_9'
  have pW := p9'.old oW
  have KW := KB9'.trans oW.kept
  have nW := oW.1
  simp only [hMW]
  clear hMW
  have em : ∀ k, wayOf tx9 = some k → entryF ts s = (⟨⟨⟨tx1⟩⟩, vl3, vl5, IntKind.u32.wrap vl7, (k : Int)⟩, (takeF ts 4 [59] s9).2) := fun k hk => by
    simp only [entryF, hr0, hr1, hr2, hr3, hr4, hr5, hr6, hr7, hr8, hr9, hk]
  have en : wayOf tx9 = none → entryF ts s = (⟨⟨⟨tx1⟩⟩, vl3, vl5, IntKind.u32.wrap vl7, 0⟩, nameF ((⟨kd9, tx9, vl9⟩, at9), s9)) := fun hk => by
    simp only [entryF, hr0, hr1, hr2, hr3, hr4, hr5, hr6, hr7, hr8, hr9, hk]
  refine LoopW_of (fun k fr m' => ∃ j, j + k = 4 ∧ m' = MW ∧ fr 0 = .pointer (some ⟨ip, 0, none⟩) ∧ fr 2 = .pointer (some ⟨m.next, 0, none⟩) ∧ fr 3 = .pointer (some ⟨i3, 0, none⟩) ∧ fr 4 = .pointer (some ⟨i4, 0, none⟩) ∧ fr 36 = .slice (some ⟨M9.next, 0, none⟩) 4 1 ∧ fr 37 = .int .i64 4 ∧ fr 38 = .int .i64 (j : Nat) ∧ (∀ j' : Nat, j' < j → wayL j' ≠ tx9)) 4 ?_ ?_
  · exact ⟨0, by omega, rfl, by simp [frA_at], by simp, by simp, by simp, by simp, by simp, by simp, fun j' h => by omega⟩
  · rintro k fr m' K ⟨j, hj, rfl, f0, f2, f3, f4, f36, f37, f38, hw⟩ hK
    by_cases hjl : j < 4
    · have hc : j = 0 ∨ j = 1 ∨ j = 2 ∨ j = 3 := by omega
      rcases hc with rfl | rfl | rfl | rfl
      · have hidx : sidx 1 (.slice (some ⟨M9.next, 0, none⟩) 4 1) (.int .i64 (0 : Int)) = some (.pointer (some ⟨M9.next, 0 + 0 * 1, none⟩)) := sidx_at (j := 0) (by omega)
        have f38 : fr 38 = .int .i64 0 := f38
        by_cases hm : tx9 = wayL 0
        · have hway : wayOf tx9 = some 0 := by
            
            unfold wayOf
            rw [if_pos hm]
          have em := em 0 hway
          have hm' : (tx9 == wayL 0) = true := by simp [hm]
          have hm2 : (wayL 0 == tx9) = true := by simp [hm]
          simp -implicitDefEqProofs (disch := first | assumption | (simp only [wnA]; done) | (simp only [wnA]; omega) | omega | fail) [wkA, retV, stabOk, dC, ev, fillD, pickCells, putAt, bnd, slD, List.getElem?_cons_zero, List.getElem?_cons_succ, dR.eq_20, Mem.cell, Mem.row, wmA, rc30_1, rc30_0, f0, f2, f3, f4, f36, f37, f38, hidx, gW, g4W, hm', hm2]
          refine SK_st (i := i3) (o := 4) (by simp [wkA, retV, stabOk, dC, ev, fillD, pickCells, putAt, bnd, slD, List.getElem?_cons_zero, List.getElem?_cons_succ, dR.eq_20]) (e := 36) g3W (by simp) (by simp [wkA, retV, stabOk, dC, ev, fillD, pickCells, putAt, bnd, slD, List.getElem?_cons_zero, List.getElem?_cons_succ, dR.eq_20]) (by simp [wkA, retV, stabOk, dC, ev, fillD, pickCells, putAt, bnd, slD, List.getElem?_cons_zero, List.getElem?_cons_succ, dR.eq_20, oneC]) ?_
          simp -implicitDefEqProofs (disch := first | assumption | (simp only [wnA]; done) | (simp only [wnA]; omega) | omega | fail) [wkA, retV, stabOk, dC, ev, fillD, pickCells, putAt, bnd, slD, List.getElem?_cons_zero, List.getElem?_cons_succ, dR.eq_20, Mem.cell, Mem.row, wmA, f0]
          obtain ⟨MX, hMX, KX, pX, g3X, hkX, nMX⟩ := step_set (x := .own [.string ⟨⟨tx1⟩⟩, .int .i64 vl3, .int .i64 vl5, .int .u32 (IntKind.u32.wrap vl7), .int .i64 0] 36) (i3 := i3) KW pW (by omega) hip hit
          have g2X := (hkX m.next (by omega)).trans g2W
          simp only [hMX]
          refine c_take (kd := 4) (tx := [59]) pX K9 hl fun m10 k10 p10 => ?_
          have g3x := (k10.2 i3 (by omega) (by omega)).trans g3X
          have g2x := (k10.2 m.next (by omega) (by omega)).trans g2X
          simp -implicitDefEqProofs (disch := first | assumption | (simp only [wnA]; done) | (simp only [wnA]; omega) | omega | fail) [wkA, retV, stabOk, dC, ev, fillD, pickCells, putAt, bnd, slD, List.getElem?_cons_zero, List.getElem?_cons_succ, dR.eq_20, Mem.cell, Mem.row, wmA, f2, f3, g3x]
          refine SK_st (i := m.next) (o := 0) (by simp [wkA, retV, stabOk, dC, ev, fillD, pickCells, putAt, bnd, slD, List.getElem?_cons_zero, List.getElem?_cons_succ, dR.eq_20, f2]) (e := 36) g2x (by simp) (by simp [wkA, retV, stabOk, dC, ev, fillD, pickCells, putAt, bnd, slD, List.getElem?_cons_zero, List.getElem?_cons_succ, dR.eq_20]) (by simp [wkA, retV, stabOk, dC, ev, fillD, pickCells, putAt, bnd, slD, List.getElem?_cons_zero, List.getElem?_cons_succ, dR.eq_20, oneC]) ?_
          simp -implicitDefEqProofs (disch := first | assumption | (simp only [wnA]; done) | (simp only [wnA]; omega) | omega | fail) [wkA, retV, stabOk, dC, ev, fillD, pickCells, putAt, bnd, slD, List.getElem?_cons_zero, List.getElem?_cons_succ, dR.eq_20, Mem.cell, Mem.row, wmA, f2]
          obtain ⟨MY, hMY, KY, pY, g3Y, hkY, nMY⟩ := step_set (x := .own [.string ⟨⟨tx1⟩⟩, .int .i64 vl3, .int .i64 vl5, .int .u32 (IntKind.u32.wrap vl7), .int .i64 0] 36) (i3 := m.next) (KX.trans k10) p10 (by omega) hip hit
          simp only [hMY]
          rw [em] at hq
          exact hq MY KY pY
        · have hm' : (tx9 == wayL 0) = false := by simp [hm]
          have hm2 : (wayL 0 == tx9) = false := by simp; exact fun e => hm e.symm
          simp -implicitDefEqProofs (disch := first | assumption | (simp only [wnA]; done) | (simp only [wnA]; omega) | omega | fail) [wkA, retV, stabOk, dC, ev, fillD, pickCells, putAt, bnd, slD, List.getElem?_cons_zero, List.getElem?_cons_succ, dR.eq_20, Mem.cell, Mem.row, wmA, rc30_1, rc30_0, f0, f2, f3, f4, f36, f37, f38, hidx, gW, g4W, hm', hm2]
          refine hK (k - 1) _ _ (by omega) ⟨1, by omega, rfl, by simp [f0], by simp [f2], by simp [f3], by simp [f4], by simp [f36], by simp [f37], by simp; decide, fun j' h => ?_⟩
          rcases Nat.lt_or_ge j' 0 with h' | h'
          · exact hw j' h'
          · obtain rfl : j' = 0 := by omega
            exact fun e => hm e.symm
      · have hidx : sidx 1 (.slice (some ⟨M9.next, 0, none⟩) 4 1) (.int .i64 (1 : Int)) = some (.pointer (some ⟨M9.next, 0 + 1 * 1, none⟩)) := sidx_at (j := 1) (by omega)
        have f38 : fr 38 = .int .i64 1 := f38
        by_cases hm : tx9 = wayL 1
        · have hway : wayOf tx9 = some 1 := by
            have d0 := hw 0 (by omega);
            unfold wayOf
            rw [if_neg (fun e => d0 e.symm), if_pos hm]
          have em := em 1 hway
          have hm' : (tx9 == wayL 1) = true := by simp [hm]
          have hm2 : (wayL 1 == tx9) = true := by simp [hm]
          simp -implicitDefEqProofs (disch := first | assumption | (simp only [wnA]; done) | (simp only [wnA]; omega) | omega | fail) [wkA, retV, stabOk, dC, ev, fillD, pickCells, putAt, bnd, slD, List.getElem?_cons_zero, List.getElem?_cons_succ, dR.eq_20, Mem.cell, Mem.row, wmA, rc30_1, rc30_0, f0, f2, f3, f4, f36, f37, f38, hidx, gW, g4W, hm', hm2]
          refine SK_st (i := i3) (o := 4) (by simp [wkA, retV, stabOk, dC, ev, fillD, pickCells, putAt, bnd, slD, List.getElem?_cons_zero, List.getElem?_cons_succ, dR.eq_20]) (e := 36) g3W (by simp) (by simp [wkA, retV, stabOk, dC, ev, fillD, pickCells, putAt, bnd, slD, List.getElem?_cons_zero, List.getElem?_cons_succ, dR.eq_20]) (by simp [wkA, retV, stabOk, dC, ev, fillD, pickCells, putAt, bnd, slD, List.getElem?_cons_zero, List.getElem?_cons_succ, dR.eq_20, oneC]) ?_
          simp -implicitDefEqProofs (disch := first | assumption | (simp only [wnA]; done) | (simp only [wnA]; omega) | omega | fail) [wkA, retV, stabOk, dC, ev, fillD, pickCells, putAt, bnd, slD, List.getElem?_cons_zero, List.getElem?_cons_succ, dR.eq_20, Mem.cell, Mem.row, wmA, f0]
          obtain ⟨MX, hMX, KX, pX, g3X, hkX, nMX⟩ := step_set (x := .own [.string ⟨⟨tx1⟩⟩, .int .i64 vl3, .int .i64 vl5, .int .u32 (IntKind.u32.wrap vl7), .int .i64 1] 36) (i3 := i3) KW pW (by omega) hip hit
          have g2X := (hkX m.next (by omega)).trans g2W
          simp only [hMX]
          refine c_take (kd := 4) (tx := [59]) pX K9 hl fun m10 k10 p10 => ?_
          have g3x := (k10.2 i3 (by omega) (by omega)).trans g3X
          have g2x := (k10.2 m.next (by omega) (by omega)).trans g2X
          simp -implicitDefEqProofs (disch := first | assumption | (simp only [wnA]; done) | (simp only [wnA]; omega) | omega | fail) [wkA, retV, stabOk, dC, ev, fillD, pickCells, putAt, bnd, slD, List.getElem?_cons_zero, List.getElem?_cons_succ, dR.eq_20, Mem.cell, Mem.row, wmA, f2, f3, g3x]
          refine SK_st (i := m.next) (o := 0) (by simp [wkA, retV, stabOk, dC, ev, fillD, pickCells, putAt, bnd, slD, List.getElem?_cons_zero, List.getElem?_cons_succ, dR.eq_20, f2]) (e := 36) g2x (by simp) (by simp [wkA, retV, stabOk, dC, ev, fillD, pickCells, putAt, bnd, slD, List.getElem?_cons_zero, List.getElem?_cons_succ, dR.eq_20]) (by simp [wkA, retV, stabOk, dC, ev, fillD, pickCells, putAt, bnd, slD, List.getElem?_cons_zero, List.getElem?_cons_succ, dR.eq_20, oneC]) ?_
          simp -implicitDefEqProofs (disch := first | assumption | (simp only [wnA]; done) | (simp only [wnA]; omega) | omega | fail) [wkA, retV, stabOk, dC, ev, fillD, pickCells, putAt, bnd, slD, List.getElem?_cons_zero, List.getElem?_cons_succ, dR.eq_20, Mem.cell, Mem.row, wmA, f2]
          obtain ⟨MY, hMY, KY, pY, g3Y, hkY, nMY⟩ := step_set (x := .own [.string ⟨⟨tx1⟩⟩, .int .i64 vl3, .int .i64 vl5, .int .u32 (IntKind.u32.wrap vl7), .int .i64 1] 36) (i3 := m.next) (KX.trans k10) p10 (by omega) hip hit
          simp only [hMY]
          rw [em] at hq
          exact hq MY KY pY
        · have hm' : (tx9 == wayL 1) = false := by simp [hm]
          have hm2 : (wayL 1 == tx9) = false := by simp; exact fun e => hm e.symm
          simp -implicitDefEqProofs (disch := first | assumption | (simp only [wnA]; done) | (simp only [wnA]; omega) | omega | fail) [wkA, retV, stabOk, dC, ev, fillD, pickCells, putAt, bnd, slD, List.getElem?_cons_zero, List.getElem?_cons_succ, dR.eq_20, Mem.cell, Mem.row, wmA, rc30_1, rc30_0, f0, f2, f3, f4, f36, f37, f38, hidx, gW, g4W, hm', hm2]
          refine hK (k - 1) _ _ (by omega) ⟨2, by omega, rfl, by simp [f0], by simp [f2], by simp [f3], by simp [f4], by simp [f36], by simp [f37], by simp; decide, fun j' h => ?_⟩
          rcases Nat.lt_or_ge j' 1 with h' | h'
          · exact hw j' h'
          · obtain rfl : j' = 1 := by omega
            exact fun e => hm e.symm
      · have hidx : sidx 1 (.slice (some ⟨M9.next, 0, none⟩) 4 1) (.int .i64 (2 : Int)) = some (.pointer (some ⟨M9.next, 0 + 2 * 1, none⟩)) := sidx_at (j := 2) (by omega)
        have f38 : fr 38 = .int .i64 2 := f38
        by_cases hm : tx9 = wayL 2
        · have hway : wayOf tx9 = some 2 := by
            have d0 := hw 0 (by omega); have d1 := hw 1 (by omega);
            unfold wayOf
            rw [if_neg (fun e => d0 e.symm), if_neg (fun e => d1 e.symm), if_pos hm]
          have em := em 2 hway
          have hm' : (tx9 == wayL 2) = true := by simp [hm]
          have hm2 : (wayL 2 == tx9) = true := by simp [hm]
          simp -implicitDefEqProofs (disch := first | assumption | (simp only [wnA]; done) | (simp only [wnA]; omega) | omega | fail) [wkA, retV, stabOk, dC, ev, fillD, pickCells, putAt, bnd, slD, List.getElem?_cons_zero, List.getElem?_cons_succ, dR.eq_20, Mem.cell, Mem.row, wmA, rc30_1, rc30_0, f0, f2, f3, f4, f36, f37, f38, hidx, gW, g4W, hm', hm2]
          refine SK_st (i := i3) (o := 4) (by simp [wkA, retV, stabOk, dC, ev, fillD, pickCells, putAt, bnd, slD, List.getElem?_cons_zero, List.getElem?_cons_succ, dR.eq_20]) (e := 36) g3W (by simp) (by simp [wkA, retV, stabOk, dC, ev, fillD, pickCells, putAt, bnd, slD, List.getElem?_cons_zero, List.getElem?_cons_succ, dR.eq_20]) (by simp [wkA, retV, stabOk, dC, ev, fillD, pickCells, putAt, bnd, slD, List.getElem?_cons_zero, List.getElem?_cons_succ, dR.eq_20, oneC]) ?_
          simp -implicitDefEqProofs (disch := first | assumption | (simp only [wnA]; done) | (simp only [wnA]; omega) | omega | fail) [wkA, retV, stabOk, dC, ev, fillD, pickCells, putAt, bnd, slD, List.getElem?_cons_zero, List.getElem?_cons_succ, dR.eq_20, Mem.cell, Mem.row, wmA, f0]
          obtain ⟨MX, hMX, KX, pX, g3X, hkX, nMX⟩ := step_set (x := .own [.string ⟨⟨tx1⟩⟩, .int .i64 vl3, .int .i64 vl5, .int .u32 (IntKind.u32.wrap vl7), .int .i64 2] 36) (i3 := i3) KW pW (by omega) hip hit
          have g2X := (hkX m.next (by omega)).trans g2W
          simp only [hMX]
          refine c_take (kd := 4) (tx := [59]) pX K9 hl fun m10 k10 p10 => ?_
          have g3x := (k10.2 i3 (by omega) (by omega)).trans g3X
          have g2x := (k10.2 m.next (by omega) (by omega)).trans g2X
          simp -implicitDefEqProofs (disch := first | assumption | (simp only [wnA]; done) | (simp only [wnA]; omega) | omega | fail) [wkA, retV, stabOk, dC, ev, fillD, pickCells, putAt, bnd, slD, List.getElem?_cons_zero, List.getElem?_cons_succ, dR.eq_20, Mem.cell, Mem.row, wmA, f2, f3, g3x]
          refine SK_st (i := m.next) (o := 0) (by simp [wkA, retV, stabOk, dC, ev, fillD, pickCells, putAt, bnd, slD, List.getElem?_cons_zero, List.getElem?_cons_succ, dR.eq_20, f2]) (e := 36) g2x (by simp) (by simp [wkA, retV, stabOk, dC, ev, fillD, pickCells, putAt, bnd, slD, List.getElem?_cons_zero, List.getElem?_cons_succ, dR.eq_20]) (by simp [wkA, retV, stabOk, dC, ev, fillD, pickCells, putAt, bnd, slD, List.getElem?_cons_zero, List.getElem?_cons_succ, dR.eq_20, oneC]) ?_
          simp -implicitDefEqProofs (disch := first | assumption | (simp only [wnA]; done) | (simp only [wnA]; omega) | omega | fail) [wkA, retV, stabOk, dC, ev, fillD, pickCells, putAt, bnd, slD, List.getElem?_cons_zero, List.getElem?_cons_succ, dR.eq_20, Mem.cell, Mem.row, wmA, f2]
          obtain ⟨MY, hMY, KY, pY, g3Y, hkY, nMY⟩ := step_set (x := .own [.string ⟨⟨tx1⟩⟩, .int .i64 vl3, .int .i64 vl5, .int .u32 (IntKind.u32.wrap vl7), .int .i64 2] 36) (i3 := m.next) (KX.trans k10) p10 (by omega) hip hit
          simp only [hMY]
          rw [em] at hq
          exact hq MY KY pY
        · have hm' : (tx9 == wayL 2) = false := by simp [hm]
          have hm2 : (wayL 2 == tx9) = false := by simp; exact fun e => hm e.symm
          simp -implicitDefEqProofs (disch := first | assumption | (simp only [wnA]; done) | (simp only [wnA]; omega) | omega | fail) [wkA, retV, stabOk, dC, ev, fillD, pickCells, putAt, bnd, slD, List.getElem?_cons_zero, List.getElem?_cons_succ, dR.eq_20, Mem.cell, Mem.row, wmA, rc30_1, rc30_0, f0, f2, f3, f4, f36, f37, f38, hidx, gW, g4W, hm', hm2]
          refine hK (k - 1) _ _ (by omega) ⟨3, by omega, rfl, by simp [f0], by simp [f2], by simp [f3], by simp [f4], by simp [f36], by simp [f37], by simp; decide, fun j' h => ?_⟩
          rcases Nat.lt_or_ge j' 2 with h' | h'
          · exact hw j' h'
          · obtain rfl : j' = 2 := by omega
            exact fun e => hm e.symm
      · have hidx : sidx 1 (.slice (some ⟨M9.next, 0, none⟩) 4 1) (.int .i64 (3 : Int)) = some (.pointer (some ⟨M9.next, 0 + 3 * 1, none⟩)) := sidx_at (j := 3) (by omega)
        have f38 : fr 38 = .int .i64 3 := f38
        by_cases hm : tx9 = wayL 3
        · have hway : wayOf tx9 = some 3 := by
            have d0 := hw 0 (by omega); have d1 := hw 1 (by omega); have d2 := hw 2 (by omega);
            unfold wayOf
            rw [if_neg (fun e => d0 e.symm), if_neg (fun e => d1 e.symm), if_neg (fun e => d2 e.symm), if_pos hm]
          have em := em 3 hway
          have hm' : (tx9 == wayL 3) = true := by simp [hm]
          have hm2 : (wayL 3 == tx9) = true := by simp [hm]
          simp -implicitDefEqProofs (disch := first | assumption | (simp only [wnA]; done) | (simp only [wnA]; omega) | omega | fail) [wkA, retV, stabOk, dC, ev, fillD, pickCells, putAt, bnd, slD, List.getElem?_cons_zero, List.getElem?_cons_succ, dR.eq_20, Mem.cell, Mem.row, wmA, rc30_1, rc30_0, f0, f2, f3, f4, f36, f37, f38, hidx, gW, g4W, hm', hm2]
          refine SK_st (i := i3) (o := 4) (by simp [wkA, retV, stabOk, dC, ev, fillD, pickCells, putAt, bnd, slD, List.getElem?_cons_zero, List.getElem?_cons_succ, dR.eq_20]) (e := 36) g3W (by simp) (by simp [wkA, retV, stabOk, dC, ev, fillD, pickCells, putAt, bnd, slD, List.getElem?_cons_zero, List.getElem?_cons_succ, dR.eq_20]) (by simp [wkA, retV, stabOk, dC, ev, fillD, pickCells, putAt, bnd, slD, List.getElem?_cons_zero, List.getElem?_cons_succ, dR.eq_20, oneC]) ?_
          simp -implicitDefEqProofs (disch := first | assumption | (simp only [wnA]; done) | (simp only [wnA]; omega) | omega | fail) [wkA, retV, stabOk, dC, ev, fillD, pickCells, putAt, bnd, slD, List.getElem?_cons_zero, List.getElem?_cons_succ, dR.eq_20, Mem.cell, Mem.row, wmA, f0]
          obtain ⟨MX, hMX, KX, pX, g3X, hkX, nMX⟩ := step_set (x := .own [.string ⟨⟨tx1⟩⟩, .int .i64 vl3, .int .i64 vl5, .int .u32 (IntKind.u32.wrap vl7), .int .i64 3] 36) (i3 := i3) KW pW (by omega) hip hit
          have g2X := (hkX m.next (by omega)).trans g2W
          simp only [hMX]
          refine c_take (kd := 4) (tx := [59]) pX K9 hl fun m10 k10 p10 => ?_
          have g3x := (k10.2 i3 (by omega) (by omega)).trans g3X
          have g2x := (k10.2 m.next (by omega) (by omega)).trans g2X
          simp -implicitDefEqProofs (disch := first | assumption | (simp only [wnA]; done) | (simp only [wnA]; omega) | omega | fail) [wkA, retV, stabOk, dC, ev, fillD, pickCells, putAt, bnd, slD, List.getElem?_cons_zero, List.getElem?_cons_succ, dR.eq_20, Mem.cell, Mem.row, wmA, f2, f3, g3x]
          refine SK_st (i := m.next) (o := 0) (by simp [wkA, retV, stabOk, dC, ev, fillD, pickCells, putAt, bnd, slD, List.getElem?_cons_zero, List.getElem?_cons_succ, dR.eq_20, f2]) (e := 36) g2x (by simp) (by simp [wkA, retV, stabOk, dC, ev, fillD, pickCells, putAt, bnd, slD, List.getElem?_cons_zero, List.getElem?_cons_succ, dR.eq_20]) (by simp [wkA, retV, stabOk, dC, ev, fillD, pickCells, putAt, bnd, slD, List.getElem?_cons_zero, List.getElem?_cons_succ, dR.eq_20, oneC]) ?_
          simp -implicitDefEqProofs (disch := first | assumption | (simp only [wnA]; done) | (simp only [wnA]; omega) | omega | fail) [wkA, retV, stabOk, dC, ev, fillD, pickCells, putAt, bnd, slD, List.getElem?_cons_zero, List.getElem?_cons_succ, dR.eq_20, Mem.cell, Mem.row, wmA, f2]
          obtain ⟨MY, hMY, KY, pY, g3Y, hkY, nMY⟩ := step_set (x := .own [.string ⟨⟨tx1⟩⟩, .int .i64 vl3, .int .i64 vl5, .int .u32 (IntKind.u32.wrap vl7), .int .i64 3] 36) (i3 := m.next) (KX.trans k10) p10 (by omega) hip hit
          simp only [hMY]
          rw [em] at hq
          exact hq MY KY pY
        · have hm' : (tx9 == wayL 3) = false := by simp [hm]
          have hm2 : (wayL 3 == tx9) = false := by simp; exact fun e => hm e.symm
          simp -implicitDefEqProofs (disch := first | assumption | (simp only [wnA]; done) | (simp only [wnA]; omega) | omega | fail) [wkA, retV, stabOk, dC, ev, fillD, pickCells, putAt, bnd, slD, List.getElem?_cons_zero, List.getElem?_cons_succ, dR.eq_20, Mem.cell, Mem.row, wmA, rc30_1, rc30_0, f0, f2, f3, f4, f36, f37, f38, hidx, gW, g4W, hm', hm2]
          refine hK (k - 1) _ _ (by omega) ⟨4, by omega, rfl, by simp [f0], by simp [f2], by simp [f3], by simp [f4], by simp [f36], by simp [f37], by simp; decide, fun j' h => ?_⟩
          rcases Nat.lt_or_ge j' 3 with h' | h'
          · exact hw j' h'
          · obtain rfl : j' = 3 := by omega
            exact fun e => hm e.symm
    · obtain rfl : j = 4 := by omega
      have hway : wayOf tx9 = none := by
        unfold wayOf
        rw [if_neg (fun e => hw 0 (by omega) e.symm), if_neg (fun e => hw 1 (by omega) e.symm), if_neg (fun e => hw 2 (by omega) e.symm), if_neg (fun e => hw 3 (by omega) e.symm)]
      have en := en hway
      have f38 : fr 38 = .int .i64 4 := f38
      cases he : s9.err with
      | some e =>
        have gp : m'.get ip = .own [.slice (some ⟨it, 0, none⟩) ts.length 4, .int .i64 (s9.k : Int), faultV e.1 e.2] 75 := by have := pW.1; rw [he] at this; exact this
        have hnf : nameF ((⟨kd9, tx9, vl9⟩, at9), s9) = s9 := by simp [nameF, he]
        simp -implicitDefEqProofs (disch := first | assumption | (simp only [wnA]; done) | (simp only [wnA]; omega) | omega | fail) [wkA, retV, stabOk, dC, ev, fillD, pickCells, putAt, bnd, slD, List.getElem?_cons_zero, List.getElem?_cons_succ, dR.eq_20, Mem.cell, Mem.row, wmA, rc30_1, rc30_3, rc30_2, f0, f2, f3, f4, f36, f37, f38, gp, faultV, g3W]
        refine SK_st (i := m.next) (o := 0) (by simp [wkA, retV, stabOk, dC, ev, fillD, pickCells, putAt, bnd, slD, List.getElem?_cons_zero, List.getElem?_cons_succ, dR.eq_20, f2]) (e := 36) g2W (by simp) (by simp [wkA, retV, stabOk, dC, ev, fillD, pickCells, putAt, bnd, slD, List.getElem?_cons_zero, List.getElem?_cons_succ, dR.eq_20]) (by simp [wkA, retV, stabOk, dC, ev, fillD, pickCells, putAt, bnd, slD, List.getElem?_cons_zero, List.getElem?_cons_succ, dR.eq_20, oneC]) ?_
        simp -implicitDefEqProofs (disch := first | assumption | (simp only [wnA]; done) | (simp only [wnA]; omega) | omega | fail) [wkA, retV, stabOk, dC, ev, fillD, pickCells, putAt, bnd, slD, List.getElem?_cons_zero, List.getElem?_cons_succ, dR.eq_20, Mem.cell, Mem.row, wmA, f2]
        obtain ⟨MY, hMY, KY, pY, g3Y, hkY, nMY⟩ := step_set (x := .own [.string ⟨⟨tx1⟩⟩, .int .i64 vl3, .int .i64 vl5, .int .u32 (IntKind.u32.wrap vl7), .int .i64 0] 36) (i3 := m.next) KW pW (by omega) hip hit
        simp only [hMY]
        rw [en, hnf] at hq
        exact hq MY KY pY
      | none =>
        have gp : m'.get ip = .own [.slice (some ⟨it, 0, none⟩) ts.length 4, .int .i64 (s9.k : Int), .nilIface] 75 := by have := pW.1; rw [he] at this; exact this
        have hnf : nameF ((⟨kd9, tx9, vl9⟩, at9), s9) = ⟨s9.k, some (3, at9)⟩ := by simp [nameF, he]
        simp -implicitDefEqProofs (disch := first | assumption | (simp only [wnA]; done) | (simp only [wnA]; omega) | omega | fail) [wkA, retV, stabOk, dC, ev, fillD, pickCells, putAt, bnd, slD, List.getElem?_cons_zero, List.getElem?_cons_succ, dR.eq_20, Mem.cell, Mem.row, wmA, rc30_1, rc30_3, rc30_2, f0, f2, f3, f4, f36, f37, f38, gp, g4W]
        refine c_Wrap (no := 3) (a := at9) ?_
        simp -implicitDefEqProofs (disch := first | assumption | (simp only [wnA]; done) | (simp only [wnA]; omega) | omega | fail) [wkA, retV, stabOk, dC, ev, fillD, pickCells, putAt, bnd, slD, List.getElem?_cons_zero, List.getElem?_cons_succ, dR.eq_20, Mem.cell, Mem.row, wmA, f0]
        refine SK_st (i := ip) (o := 2) (by simp [wkA, retV, stabOk, dC, ev, fillD, pickCells, putAt, bnd, slD, List.getElem?_cons_zero, List.getElem?_cons_succ, dR.eq_20, f0]) (e := 75) gp (by simp) (by simp [wkA, retV, stabOk, dC, ev, fillD, pickCells, putAt, bnd, slD, List.getElem?_cons_zero, List.getElem?_cons_succ, dR.eq_20, faultV]) (by simp [wkA, retV, stabOk, dC, ev, fillD, pickCells, putAt, bnd, slD, List.getElem?_cons_zero, List.getElem?_cons_succ, dR.eq_20, faultV, oneC]) ?_
        have n3 : i3 ≠ ip := by omega
        simp -implicitDefEqProofs (disch := first | assumption | (simp only [wnA]; done) | (simp only [wnA]; omega) | omega | fail) [wkA, retV, stabOk, dC, ev, fillD, pickCells, putAt, bnd, slD, List.getElem?_cons_zero, List.getElem?_cons_succ, dR.eq_20, Mem.cell, Mem.row, wmA, faultV, f3, g3W, n3]
        obtain ⟨MX, hMX⟩ : ∃ MX, m'.set ip (.own [.slice (some ⟨it, 0, none⟩) ts.length 4, .int .i64 (s9.k : Int), .iface 84 (.agg ⟨[.int .i64 3, .int .i64 (at9 : Int)]⟩)] 75) = MX := ⟨_, rfl⟩
        simp only [hMX]
        have KX : Kept ip m MX := by subst hMX; exact ⟨KW.1, fun i hi hn => by rw [Mem.set_other _ _ hn]; exact KW.2 i hi hn⟩
        have pX : PsAt MX ip it ts ⟨s9.k, some (3, at9)⟩ := by
          subst hMX
          exact ⟨by rw [Mem.set_same]; rfl, by rw [Mem.set_other _ _ (fun e => pW.2.2.2.2 e.symm)]; exact pW.2.1, pW.2.2.1, pW.2.2.2.1, pW.2.2.2.2⟩
        have g2X := (show MX.get m.next = m'.get m.next by subst hMX; exact Mem.set_other _ _ (by omega)).trans g2W
        refine SK_st (i := m.next) (o := 0) (by simp [wkA, retV, stabOk, dC, ev, fillD, pickCells, putAt, bnd, slD, List.getElem?_cons_zero, List.getElem?_cons_succ, dR.eq_20, f2]) (e := 36) g2X (by simp) (by simp [wkA, retV, stabOk, dC, ev, fillD, pickCells, putAt, bnd, slD, List.getElem?_cons_zero, List.getElem?_cons_succ, dR.eq_20]) (by simp [wkA, retV, stabOk, dC, ev, fillD, pickCells, putAt, bnd, slD, List.getElem?_cons_zero, List.getElem?_cons_succ, dR.eq_20, oneC]) ?_
        simp -implicitDefEqProofs (disch := first | assumption | (simp only [wnA]; done) | (simp only [wnA]; omega) | omega | fail) [wkA, retV, stabOk, dC, ev, fillD, pickCells, putAt, bnd, slD, List.getElem?_cons_zero, List.getElem?_cons_succ, dR.eq_20, Mem.cell, Mem.row, wmA, f2]
        obtain ⟨MY, hMY, KY, pY, g3Y, hkY, nMY⟩ := step_set (x := .own [.string ⟨⟨tx1⟩⟩, .int .i64 vl3, .int .i64 vl5, .int .u32 (IntKind.u32.wrap vl7), .int .i64 0] 36) (i3 := m.next) KX pX (by omega) hip hit
        simp only [hMY]
        rw [en, hnf] at hq
        exact hq MY KY pY
end Go.Proofs.YtgfkjldohilmkaaDoor.Ab
/- A manifest's text is read: the whole. -/
set_option linter.unusedVariables false
set_option linter.unusedSimpArgs false
namespace Go.Proofs.YtgfkjldohilmkaaDoor.Ab
open Go Go.RowKit
set_option maxHeartbeats 4000000
set_option maxRecDepth 100000

theorem takeF_none {ts : List (Tk × Nat)} {kd : Int} {tx : List UInt8} {s : PS} (h : (takeF ts kd tx s).2.err = none) : s.err = none ∧ misfit (ts.getD s.k tok0).1 kd tx = false ∧ takeF ts kd tx s = (ts.getD s.k tok0, ⟨s.k + 1, none⟩) := by
  rw [takeF_eq] at h ⊢
  obtain ⟨k, err⟩ := s
  cases hm : misfit (ts.getD k tok0).1 kd tx with
  | true =>
    simp only [hm, if_true] at h
    exfalso
    cases err <;> simp [failF, takeR] at h
  | false =>
    simp only [hm] at h ⊢
    cases err with
    | some e => simp [takeR] at h
    | none => exact ⟨rfl, trivial, by simp [takeR]⟩
theorem takeF_fit {ts : List (Tk × Nat)} {kd : Int} {tx : List UInt8} {k : Nat} (h : misfit (ts.getD k tok0).1 kd tx = false) : takeF ts kd tx ⟨k, none⟩ = (ts.getD k tok0, ⟨k + 1, none⟩) := by
  rw [takeF_eq]
  show takeR (ts.getD k tok0) (if misfit (ts.getD k tok0).1 kd tx = true then _ else _) = _
  rw [h]
  rfl
/-- An entry that is right: eleven tokens. -/
def tkF (ts : List (Tk × Nat)) (k : Nat) : Tk := (ts.getD k tok0).1
def Fits11 (ts : List (Tk × Nat)) (k w : Nat) : Prop :=
  misfit (tkF ts k) 1 [105, 109, 97, 103, 101] = false ∧ misfit (tkF ts (k + 1)) 3 [] = false ∧ misfit (tkF ts (k + 2)) 1 [97, 116] = false ∧ misfit (tkF ts (k + 3)) 2 [] = false ∧ misfit (tkF ts (k + 4)) 1 [115, 105, 122, 101] = false ∧ misfit (tkF ts (k + 5)) 2 [] = false ∧ misfit (tkF ts (k + 6)) 1 [112, 114, 105, 110, 116] = false ∧ misfit (tkF ts (k + 7)) 2 [] = false ∧ misfit (tkF ts (k + 8)) 1 [98, 121] = false ∧ misfit (tkF ts (k + 9)) 1 [] = false ∧ misfit (tkF ts (k + 10)) 4 [59] = false ∧ wayOf (tkF ts (k + 9)).tx = some w
def entT (ts : List (Tk × Nat)) (k w : Nat) : En := ⟨⟨⟨(tkF ts (k + 1)).tx⟩⟩, (tkF ts (k + 3)).vl, (tkF ts (k + 5)).vl, IntKind.u32.wrap (tkF ts (k + 7)).vl, (w : Int)⟩
theorem entryF_fit {ts : List (Tk × Nat)} {k w : Nat} (h : Fits11 ts k w) : entryF ts ⟨k, none⟩ = (entT ts k w, ⟨k + 11, none⟩) := by
  obtain ⟨h0, h1, h2, h3, h4, h5, h6, h7, h8, h9, h10, hw⟩ := h
  have hw' : wayOf (ts.getD (k + 9) tok0).1.tx = some w := hw
  simp only [entryF, takeF_fit h0, takeF_fit h1, takeF_fit h2, takeF_fit h3, takeF_fit h4, takeF_fit h5, takeF_fit h6, takeF_fit h7, takeF_fit h8, takeF_fit h9, takeF_fit h10, hw']
  rfl
theorem entryF_none {ts : List (Tk × Nat)} {s : PS} (h : (entryF ts s).2.err = none) : ∃ w, s = ⟨s.k, none⟩ ∧ Fits11 ts s.k w := by
  obtain ⟨k, err⟩ := s
  unfold entryF at h
  simp only at h
  have last : ∃ w, wayOf (takeF ts 1 [] (takeF ts 1 [98, 121] (takeF ts 2 [] (takeF ts 1 [112, 114, 105, 110, 116] (takeF ts 2 [] (takeF ts 1 [115, 105, 122, 101] (takeF ts 2 [] (takeF ts 1 [97, 116] (takeF ts 3 [] (takeF ts 1 [105, 109, 97, 103, 101] ⟨k, err⟩).2).2).2).2).2).2).2).2).2).1.1.tx = some w ∧ (takeF ts 4 [59] (takeF ts 1 [] (takeF ts 1 [98, 121] (takeF ts 2 [] (takeF ts 1 [112, 114, 105, 110, 116] (takeF ts 2 [] (takeF ts 1 [115, 105, 122, 101] (takeF ts 2 [] (takeF ts 1 [97, 116] (takeF ts 3 [] (takeF ts 1 [105, 109, 97, 103, 101] ⟨k, err⟩).2).2).2).2).2).2).2).2).2).2).2.err = none := by
    split at h
    · rename_i w hw; exact ⟨w, hw, h⟩
    · exfalso
      unfold nameF at h
      split at h
      · rename_i e he; rw [he] at h; cases h
      · cases h
  obtain ⟨w, hw, h⟩ := last
  refine ⟨w, ?_⟩
  obtain ⟨a, f10, e10⟩ := takeF_none h
  obtain ⟨a, f9, e9⟩ := takeF_none a
  obtain ⟨a, f8, e8⟩ := takeF_none a
  obtain ⟨a, f7, e7⟩ := takeF_none a
  obtain ⟨a, f6, e6⟩ := takeF_none a
  obtain ⟨a, f5, e5⟩ := takeF_none a
  obtain ⟨a, f4, e4⟩ := takeF_none a
  obtain ⟨a, f3, e3⟩ := takeF_none a
  obtain ⟨a, f2, e2⟩ := takeF_none a
  obtain ⟨a, f1, e1⟩ := takeF_none a
  obtain ⟨a, f0, e0⟩ := takeF_none a
  simp only [e0] at f1 e1 f2 e2 f3 e3 f4 e4 f5 e5 f6 e6 f7 e7 f8 e8 f9 e9 f10 e10 hw
  simp only [e1] at f2 e2 f3 e3 f4 e4 f5 e5 f6 e6 f7 e7 f8 e8 f9 e9 f10 e10 hw
  simp only [e2] at f3 e3 f4 e4 f5 e5 f6 e6 f7 e7 f8 e8 f9 e9 f10 e10 hw
  simp only [e3] at f4 e4 f5 e5 f6 e6 f7 e7 f8 e8 f9 e9 f10 e10 hw
  simp only [e4] at f5 e5 f6 e6 f7 e7 f8 e8 f9 e9 f10 e10 hw
  simp only [e5] at f6 e6 f7 e7 f8 e8 f9 e9 f10 e10 hw
  simp only [e6] at f7 e7 f8 e8 f9 e9 f10 e10 hw
  simp only [e7] at f8 e8 f9 e9 f10 e10 hw
  simp only [e8] at f9 e9 f10 e10 hw
  simp only [e9] at f10 e10 hw
  have a : err = none := a
  subst a
  exact ⟨rfl, f0, f1, f2, f3, f4, f5, f6, f7, f8, f9, f10, hw⟩
theorem nameF_k (w : (Tk × Nat) × PS) : (nameF w).k = w.2.k := by unfold nameF; cases w.2.err <;> rfl
theorem entryF_k {ts : List (Tk × Nat)} {s : PS} (he : EndOk ts) (hk : s.k < ts.length) : (entryF ts s).2.k < ts.length := by
  have a0 := takeF_k (kd := 1) (tx := [105, 109, 97, 103, 101]) he hk (by decide)
  have a1 := takeF_k (kd := 3) (tx := []) he a0 (by decide)
  have a2 := takeF_k (kd := 1) (tx := [97, 116]) he a1 (by decide)
  have a3 := takeF_k (kd := 2) (tx := []) he a2 (by decide)
  have a4 := takeF_k (kd := 1) (tx := [115, 105, 122, 101]) he a3 (by decide)
  have a5 := takeF_k (kd := 2) (tx := []) he a4 (by decide)
  have a6 := takeF_k (kd := 1) (tx := [112, 114, 105, 110, 116]) he a5 (by decide)
  have a7 := takeF_k (kd := 2) (tx := []) he a6 (by decide)
  have a8 := takeF_k (kd := 1) (tx := [98, 121]) he a7 (by decide)
  have a9 := takeF_k (kd := 1) (tx := []) he a8 (by decide)
  unfold entryF
  simp only
  split
  · exact takeF_k he a9 (by decide)
  · rw [nameF_k]; exact a9

def parseF : Nat → List (Tk × Nat) → PS → List En → List En × Option (Nat × Nat)
  | 0, ts, s, out => (out, s.err)
  | f + 1, ts, s, out => if s.err = none ∧ (ts.getD s.k tok0).1.kd ≠ 0 then parseF f ts (entryF ts s).2 (out ++ [(entryF ts s).1]) else (out, s.err)
def parseL (ts : List (Tk × Nat)) : List En × Option (Nat × Nat) := parseF ts.length ts ⟨0, none⟩ []
def mu (ts : List (Tk × Nat)) (s : PS) : Nat := match s.err with
  | none => ts.length - s.k
  | some _ => 0
theorem mu_entry {ts : List (Tk × Nat)} {s : PS} (he : EndOk ts) (hk : s.k < ts.length) (h : s.err = none) : mu ts (entryF ts s).2 < mu ts s := by
  have h1 : mu ts s = ts.length - s.k := by simp [mu, h]
  cases h2 : (entryF ts s).2.err with
  | some e =>
    have : mu ts (entryF ts s).2 = 0 := by simp [mu, h2]
    omega
  | none =>
    obtain ⟨w, hs, hf⟩ := entryF_none h2
    have e : (entryF ts s).2 = ⟨s.k + 11, none⟩ := by rw [hs, entryF_fit hf]
    have : mu ts (⟨s.k + 11, none⟩ : PS) = ts.length - (s.k + 11) := rfl
    rw [e, this, h1]
    omega
theorem parse_stop {ts : List (Tk × Nat)} {s : PS} {out : List En} (h : ¬ (s.err = none ∧ (ts.getD s.k tok0).1.kd ≠ 0)) : ∀ n, parseF n ts s out = (out, s.err)
  | 0 => rfl
  | n + 1 => by rw [parseF, if_neg h]

theorem kept_old {ip : Nat} {b m : Mem} (h : Kept ip b m) : Old (b.set ip (m.get ip)) m :=
  ⟨h.1, fun i hi => by
    rcases Classical.em (i = ip) with e | e
    · subst e; rw [Mem.set_same]
    · rw [Mem.set_other _ _ e]; exact h.2 i hi e⟩
theorem SK_appP {P : Program} {w0 : World} {ts : Fr} {m base : Mem} {R : Value → Mem → Prop} {e sz bytes n k : Nat} {ob : Option Nat} {cs ys : List Value} {x y : Operand} (hb : Old base m) (h : SlO m e sz ob cs n) (hob : ∀ b, ob = some b → base.next ≤ b)
    (hx : ev ts x = slV ob n sz) (hy : elemsV m sz (ev ts y) = some ys) (hk : lenV (ev ts y) = k) (hpos : 0 < k) (h1 : ys.all oneC = true) (h2 : (n + k) * bytes ≤ 140737488355328) (h3 : n + k ≤ maxLen) (hl : ys.length = k * sz)
    (hR : ∀ ob' m', Old base m' → SlO m' e sz ob' (cs ++ ys) (n + k) → (∀ b, ob' = some b → base.next ≤ b) → R (slV ob' (n + k) sz) m') : SK P w0 (.e (.app e sz bytes x y)) ts m R := by
  refine SK_ap h hx hy hk hpos h1 h2 h3 hl (hR _ _ ((hb.kill hob).push _) (SlO.new ?_) ?_)
  · rw [List.length_append, h.1, hl, Nat.add_mul]
  · intro b hb'; cases hb'; exact hb.1
theorem En_one (e : En) : e.cells.all oneC = true := rfl

theorem c_Parse {w0 : World} {m : Mem} {S : ByteArray} {Q : Value → Mem → Prop} (hp : Part L0 m) (ht : Ten w0) (hE : ErrV w0)
    (hb : 4096 < S.size → ∀ m', Old m m' → Q (.tuple ⟨[.slice none 0 0, faultV 7 0]⟩) m')
    (hx : S.size ≤ 4096 → ∀ m' a, Old m m' → cutL 0 S.data.toList = .inl a → Q (.tuple ⟨[.slice none 0 0, faultV 1 a]⟩) m')
    (he : S.size ≤ 4096 → ∀ m' us e, Old m m' → cutL 0 S.data.toList = .inr us → (parseL us).2 = some e → Q (.tuple ⟨[.slice none 0 0, faultV e.1 e.2]⟩) m')
    (hq : S.size ≤ 4096 → ∀ m' us ob, Old m m' → cutL 0 S.data.toList = .inr us → us.length ≤ S.size + 1 → (parseL us).2 = none → SlO m' 36 5 ob ((parseL us).1.flatMap En.cells) (parseL us).1.length → (∀ i, ob = some i → m.next ≤ i) → Q (.tuple ⟨[slV ob (parseL us).1.length 5, .nilIface]⟩) m') :
    AbC Tryd.prog w0 12 [.string S] m Q := by
  refine AbC_fn ok12 (by simp) ?_
  simp -implicitDefEqProofs (disch := first | assumption | (simp only [wnA]; done) | (simp only [wnA]; omega) | omega | fail) [rc12, ro12, wkA, retV, stabOk, dC, ev, fillD, pickCells, putAt, bnd, slD, List.getElem?_cons_zero, List.getElem?_cons_succ, dR.eq_20, Mem.cell, Mem.row, wmA]
  refine c_tCut hp ht hE (fun hs m1 o1 => ?_) (fun hs m1 a o1 hc => ?_) fun hs m1 it us o1 h1 hi hul hc => ?_
  · have hf : faultV 7 0 = .iface 84 (.agg ⟨[.int .i64 ((7 : Nat) : Int), .int .i64 ((0 : Nat) : Int)]⟩) := rfl
    have hb := hb hs m1 o1
    rw [hf] at hb
    simp -implicitDefEqProofs (disch := first | assumption | (simp only [wnA]; done) | (simp only [wnA]; omega) | omega | fail) [wkA, retV, stabOk, dC, ev, fillD, pickCells, putAt, bnd, slD, List.getElem?_cons_zero, List.getElem?_cons_succ, dR.eq_20, Mem.cell, Mem.row, wmA, hf]
    exact hb
  · have hf : faultV 1 a = .iface 84 (.agg ⟨[.int .i64 ((1 : Nat) : Int), .int .i64 (a : Int)]⟩) := rfl
    have hx := hx hs m1 a o1 hc
    rw [hf] at hx
    simp -implicitDefEqProofs (disch := first | assumption | (simp only [wnA]; done) | (simp only [wnA]; omega) | omega | fail) [wkA, retV, stabOk, dC, ev, fillD, pickCells, putAt, bnd, slD, List.getElem?_cons_zero, List.getElem?_cons_succ, dR.eq_20, Mem.cell, Mem.row, wmA, hf]
    exact hx
  · have hE : EndOk us := by
      obtain ⟨-, ini, hini⟩ := (cut_places S.data.toList S.data.toList.length 0 (by omega) (by omega)).2 us hc
      unfold EndOk
      rw [hini]
      simp [endT]
    have hpos : 0 < us.length := by
      obtain ⟨-, ini, hini⟩ := (cut_places S.data.toList S.data.toList.length 0 (by omega) (by omega)).2 us hc
      rw [hini]; simp
    simp -implicitDefEqProofs (disch := first | assumption | (simp only [wnA]; done) | (simp only [wnA]; omega) | omega | fail) [wkA, retV, stabOk, dC, ev, fillD, pickCells, putAt, bnd, slD, List.getElem?_cons_zero, List.getElem?_cons_succ, dR.eq_20, Mem.cell, Mem.row, wmA, rc12_4]
    obtain ⟨ip, hip⟩ : ∃ ip, m1.next = ip := ⟨_, rfl⟩
    obtain ⟨b, hbb⟩ : ∃ b, m1.push (.own [slV (some it) us.length 4, .int .i64 0, .nilIface] 75) = b := ⟨_, rfl⟩
    have oB : Old m1 b := by subst hbb; exact (Old.refl m1).push _
    have pB : PsAt b ip it us ⟨0, none⟩ := by
      subst hbb hip
      exact ⟨by rw [Mem.push_same]; rfl, by rw [Mem.push_old _ _ h1.lt]; exact h1.2.1, by simp, by have := h1.lt; simp; omega, by have := h1.lt; omega⟩
    have nB : b.next = ip + 1 := by subst hbb hip; rfl
    have fin : ∀ m', Kept ip b m' → Old m m' := fun m' k => ⟨by have := o1.1; have := oB.1; have := k.1; omega, fun i hi => by
      have := o1.1
      rw [k.2 i (by omega) (by omega), oB.2 i (by omega), o1.2 i hi]⟩
    have hlm : m.next ≤ b.next := by have := o1.1; omega
    simp only [hbb, hip]
    clear hbb
    refine LoopW_of (fun n fr m' => ∃ s out ob, mu us s ≤ n ∧ s.k < us.length ∧ parseF n us s out = parseL us ∧ Kept ip b m' ∧ PsAt m' ip it us s ∧ SlO m' 36 5 ob (out.flatMap En.cells) out.length ∧ (∀ i, ob = some i → b.next ≤ i) ∧ out.length + mu us s ≤ us.length ∧ fr 6 = .pointer (some ⟨ip, 0, none⟩) ∧ fr 7 = slV ob out.length 5) us.length ?_ ?_
    · exact ⟨⟨0, none⟩, [], none, by simp [mu], hpos, rfl, Kept.refl _ _, pB, ⟨rfl, rfl⟩, (fun i h => by cases h), by simp [mu], by simp, by simp; rfl⟩
    · rintro n fr m' K ⟨s, out, ob, hmu, hk, hpa, kB, pS, so, hob, hol, f6, f7⟩ hK
      obtain ⟨k, err⟩ := s
      have hk : k < us.length := hk
      have oF := fin m' kB
      cases err with
      | some e =>
        have gp : m'.get ip = .own [.slice (some ⟨it, 0, none⟩) us.length 4, .int .i64 (k : Int), .iface 84 (.agg ⟨[.int .i64 (e.1 : Int), .int .i64 (e.2 : Int)]⟩)] 75 := pS.1
        have hpe : parseL us = (out, some e) := by rw [← hpa]; exact parse_stop (fun h => by cases h.1) n
        have he := he hs m' us e oF hc (by rw [hpe])
        simp only [faultV] at he
        simp -implicitDefEqProofs (disch := first | assumption | (simp only [wnA]; done) | (simp only [wnA]; omega) | omega | fail) [wkA, retV, stabOk, dC, ev, fillD, pickCells, putAt, bnd, slD, List.getElem?_cons_zero, List.getElem?_cons_succ, dR.eq_20, Mem.cell, Mem.row, wmA, rc12_1, rc12_3, f6, gp]
        exact he
      | none =>
        have gp : m'.get ip = .own [.slice (some ⟨it, 0, none⟩) us.length 4, .int .i64 (k : Int), .nilIface] 75 := pS.1
        have hidx : sidx 4 (.slice (some ⟨it, 0, none⟩) us.length 4) (.int .i64 (k : Int)) = some (.pointer (some ⟨it, 0 + k * 4, none⟩)) := sidx_at hk
        rw [Nat.zero_add] at hidx
        have gt := pS.2.1
        have g0 : (us.flatMap cellP)[k * 4]? = some (.int .i64 (us.getD k tok0).1.kd) := by
          have := flat_at' cellP_len us (List.getElem?_eq_getElem hk) (show 0 < 4 by omega)
          have e : us.getD k tok0 = us[k] := by simp [List.getD, List.getElem?_eq_getElem hk]
          rw [e]
          exact this
        obtain ⟨kd0, hkd0⟩ : ∃ x, (us.getD k tok0).1.kd = x := ⟨_, rfl⟩
        rw [hkd0] at g0
        by_cases hkd : kd0 = 0
        · have hpe : parseL us = (out, none) := by rw [← hpa]; exact parse_stop (fun h => h.2 (hkd0.trans hkd)) n
          have hq := hq hs m' us ob oF hc hul (by rw [hpe]) (by rw [hpe]; exact so) (fun i h => by have := hob i h; omega)
          rw [hpe] at hq
          rw [hkd] at g0
          obtain ⟨L, hL⟩ : ∃ L, us.flatMap cellP = L := ⟨_, rfl⟩
          rw [hL] at gt g0
          simp -implicitDefEqProofs (disch := first | assumption | (simp only [wnA]; done) | (simp only [wnA]; omega) | omega | fail) [wkA, retV, stabOk, dC, ev, fillD, pickCells, putAt, bnd, slD, List.getElem?_cons_zero, List.getElem?_cons_succ, dR.eq_20, Mem.cell, Mem.row, wmA, rc12_1, rc12_3, rc12_2, f6, f7, gp, hidx, gt, g0]
          exact hq
        · have hm1 : mu us ⟨k, none⟩ = us.length - k := rfl
          obtain ⟨n, rfl⟩ : ∃ n', n = n' + 1 := ⟨n - 1, by omega⟩
          have hmu2 := mu_entry (s := ⟨k, none⟩) hE hk rfl
          have hk2 := entryF_k (s := ⟨k, none⟩) hE hk
          rw [parseF, if_pos ⟨rfl, fun e => hkd (hkd0.symm.trans e)⟩] at hpa
          obtain ⟨L, hL⟩ : ∃ L, us.flatMap cellP = L := ⟨_, rfl⟩
          rw [hL] at gt g0
          simp -implicitDefEqProofs (disch := first | assumption | (simp only [wnA]; done) | (simp only [wnA]; omega) | omega | fail) [wkA, retV, stabOk, dC, ev, fillD, pickCells, putAt, bnd, slD, List.getElem?_cons_zero, List.getElem?_cons_succ, dR.eq_20, Mem.cell, Mem.row, wmA, rc12_1, rc12_0, f6, f7, gp, hidx, gt, g0, bneT hkd]
          refine c_entry pS hk (by omega) hE fun m2 k2 p2 => ?_
          generalize entryF us ⟨k, none⟩ = r at *
          obtain ⟨⟨nm, ea, es, ep, ew⟩, s2⟩ := r
          simp -implicitDefEqProofs (disch := first | assumption | (simp only [wnA]; done) | (simp only [wnA]; omega) | omega | fail) [wkA, retV, stabOk, dC, ev, fillD, pickCells, putAt, bnd, slD, List.getElem?_cons_zero, List.getElem?_cons_succ, dR.eq_20, Mem.cell, Mem.row, wmA]
          rw [SK_bsl (cs := [.string nm, .int .i64 ea, .int .i64 es, .int .u32 ep, .int .i64 ew]) (by simp [wkA, retV, stabOk, dC, ev, fillD, pickCells, putAt, bnd, slD, List.getElem?_cons_zero, List.getElem?_cons_succ, dR.eq_20, En.cells]) (by simp)]
          obtain ⟨m3, hm3⟩ : ∃ m3, m2.push (.own [.string nm, .int .i64 ea, .int .i64 es, .int .u32 ep, .int .i64 ew] 36) = m3 := ⟨_, rfl⟩
          have o3 : Old m2 m3 := by subst hm3; exact (Old.refl m2).push _
          have g3 : m3.get m2.next = .own [.string nm, .int .i64 ea, .int .i64 es, .int .u32 ep, .int .i64 ew] 36 := by subst hm3; rw [Mem.push_same]
          have n3 : m3.next = m2.next + 1 := by subst hm3; rfl
          simp -implicitDefEqProofs (disch := first | assumption | (simp only [wnA]; done) | (simp only [wnA]; omega) | omega | fail) [wkA, retV, stabOk, dC, ev, fillD, pickCells, putAt, bnd, slD, List.getElem?_cons_zero, List.getElem?_cons_succ, dR.eq_20, Mem.cell, Mem.row, wmA, hm3]
          clear hm3
          have K3 : Kept ip b m3 := (kB.trans k2).trans o3.kept
          have p3 := p2.old o3
          have s3 : SlO m3 36 5 ob (out.flatMap En.cells) out.length := so.keep (by have := k2.1; have := o3.1; omega) fun j hj => by
            have h1 := hob j hj
            have h2 : j < m'.next := by subst hj; exact so.lt
            rw [o3.2 j (by have := k2.1; omega), k2.2 j h2 (by omega)]
          refine SK_appP (base := b.set ip (m3.get ip)) (ob := ob) (n := out.length) (k := 1) (cs := out.flatMap En.cells) (ys := [.string nm, .int .i64 ea, .int .i64 es, .int .u32 ep, .int .i64 ew]) (kept_old K3) s3 hob (by simp [wkA, retV, stabOk, dC, ev, fillD, pickCells, putAt, bnd, slD, List.getElem?_cons_zero, List.getElem?_cons_succ, dR.eq_20]) (by simp -implicitDefEqProofs (disch := first | assumption | (simp only [wnA]; done) | (simp only [wnA]; omega) | omega | fail) [wkA, retV, stabOk, dC, ev, fillD, pickCells, putAt, bnd, slD, List.getElem?_cons_zero, List.getElem?_cons_succ, dR.eq_20, elemsV, Mem.cell, Mem.row, wmA, g3]) (by simp [wkA, retV, stabOk, dC, ev, fillD, pickCells, putAt, bnd, slD, List.getElem?_cons_zero, List.getElem?_cons_succ, dR.eq_20]) (by omega) rfl (by omega) (by simp only [maxLen]; omega) rfl fun ob' m4 o4 s4 hob4 => ?_
          simp -implicitDefEqProofs (disch := first | assumption | (simp only [wnA]; done) | (simp only [wnA]; omega) | omega | fail) [wkA, retV, stabOk, dC, ev, fillD, pickCells, putAt, bnd, slD, List.getElem?_cons_zero, List.getElem?_cons_succ, dR.eq_20, Mem.cell, Mem.row, wmA]
          have K4 : Kept ip b m4 := ⟨o4.1, fun i hi hn => by rw [o4.2 i hi, Mem.set_other _ _ hn]⟩
          have gi : m4.get ip = m3.get ip := by rw [o4.2 ip (by show ip < b.next; omega), Mem.set_same]
          have p4 : PsAt m4 ip it us s2 := by
            obtain ⟨x1, x2, x3, x4, x5⟩ := p3
            have hitb : it < b.next := pB.2.2.2.1
            exact ⟨by rw [gi]; exact x1, by rw [K4.2 it hitb (fun e => x5 e.symm), pB.2.1], by have := o4.1; show ip < m4.next; have : b.next ≤ m4.next := this; omega, by have : b.next ≤ m4.next := o4.1; omega, x5⟩
          refine hK n _ m4 (by omega) ⟨s2, out ++ [⟨nm, ea, es, ep, ew⟩], ob', ?_, ?_, hpa, K4, p4, ?_, hob4, ?_, ?_, ?_⟩
          · have : mu us s2 < mu us ⟨k, none⟩ := hmu2
            omega
          · exact hk2
          · have : (out ++ [(⟨nm, ea, es, ep, ew⟩ : En)]).flatMap En.cells = out.flatMap En.cells ++ [.string nm, .int .i64 ea, .int .i64 es, .int .u32 ep, .int .i64 ew] := by simp [En.cells]
            rw [this]
            simpa using s4
          · have : mu us s2 < mu us ⟨k, none⟩ := hmu2
            simp
            omega
          · simp [f6]
          · simp
end Go.Proofs.YtgfkjldohilmkaaDoor.Ab

set_option linter.unusedVariables false
set_option linter.unusedSimpArgs false
namespace Go.Proofs.YtgfkjldohilmkaaDoor.As
open Go Go.RowKit Go.Extern.Stop Go.Stop Go.Extern
set_option maxRecDepth 100000

abbrev hd (T : TypeId) : Value := .pointer (some ⟨7, T, none⟩)
abbrev rt (T : TypeId) : Value := .iface 120 (.agg #[hd T])
theorem valueOfP (t : Addr) (w : World) : (ReflectliteValue.unpack (.iface 85 (.pointer (some t)))).run Tryd.prog w
    = .ok (.agg #[hd 85, .pointer (some ⟨w.heap.size, 0, none⟩), .int .u64 150]) (w.alloc (.cells #[.pointer (some t)] 85)) := by kernel_rfl
theorem typeP (a : Addr) (w : World) : (ReflectliteValue.methodAny (ReflectliteValue.valueError "reflectlite.Value.Type" 0) (fun t _ _ _ => ReflectliteType.toType t) #[.agg #[hd 85, .pointer (some a), .int .u64 150]]).run Tryd.prog w = .ok (rt 85) w := by kernel_rfl
theorem methodKind (h : Value) (w : World) : (Go.method 285 120 (.agg #[h]) "Kind").run Tryd.prog w = .ok (98, h) w := by kernel_rfl
theorem methodElem (h : Value) (w : World) : (Go.method 285 120 (.agg #[h]) "Elem").run Tryd.prog w = .ok (111, .agg #[h]) w := by kernel_rfl
theorem methodImplements (h : Value) (w : World) : (Go.method 285 120 (.agg #[h]) "Implements").run Tryd.prog w = .ok (112, .agg #[h]) w := by kernel_rfl
theorem methodAssignableTo (h : Value) (w : World) : (Go.method 285 120 (.agg #[h]) "AssignableTo").run Tryd.prog w = .ok (109, .agg #[h]) w := by kernel_rfl
theorem kindP (w : World) : ((ReflectliteType.abiMethod fun t => (fun a : Nat => Value.int IntKind.u8 (a : Int)) <$> Rtype.kind t) #[hd 85]).run Tryd.prog w = .ok (.int .u8 22) w := by kernel_rfl
theorem kindF (w : World) : ((ReflectliteType.abiMethod fun t => (fun a : Nat => Value.int IntKind.u8 (a : Int)) <$> Rtype.kind t) #[hd 84]).run Tryd.prog w = .ok (.int .u8 25) w := by kernel_rfl
theorem elemP (w : World) : (ReflectliteType.method ReflectliteType.elem #[.agg #[hd 85]]).run Tryd.prog w = .ok (rt 84) w := by kernel_rfl
theorem implF (w : World) : (ReflectliteType.relation "Implements" ReflectliteType.implements_ #[.agg #[hd 84], rt 28]).run Tryd.prog w = .ok (.bool true) w := by kernel_rfl
theorem typeOfF (v : Value) (w : World) : (ReflectliteType.typeOf #[.iface 84 v]).run Tryd.prog w = .ok (rt 84) w := by kernel_rfl
theorem assignF (w : World) : (ReflectliteType.relation "AssignableTo" ReflectliteType.assignableTo #[.agg #[hd 84], rt 84]).run Tryd.prog w = .ok (.bool true) w := by kernel_rfl
theorem valueOfF (n a : Int) (w : World) : (ReflectliteValue.unpack (.iface 84 (.agg #[.int .i64 n, .int .i64 a]))).run Tryd.prog w
    = .ok (.agg #[hd 84, .pointer (some ⟨w.heap.size, 0, none⟩), .int .u64 153]) (w.alloc (.cells #[.int .i64 n, .int .i64 a] 84)) := by kernel_rfl
theorem rlm (z : Sem Value) (f : TypeId → Addr → Nat → Nat → Sem Value) (v : Value) :
    ReflectliteValue.method z f #[v] = (do match ← ReflectliteValue.parts v with | none => z | some (t, a, fl) => f t a fl (fl % 32)) := rfl
theorem partsP (a : Addr) (w : World) : (ReflectliteValue.parts (.agg #[hd 85, .pointer (some a), .int .u64 150])).run Tryd.prog w = .ok (some (85, a, 150)) w := by kernel_rfl
theorem isNilP (a p : Addr) (W : World) (ha : W.cell? a = some (.pointer (some p))) :
    (ReflectliteValue.method (ReflectliteValue.valueError "reflectlite.Value.IsNil" 0) ReflectliteValue.isNil #[.agg #[hd 85, .pointer (some a), .int .u64 150]]).run Tryd.prog W = .ok (.bool false) W := by
  rw [rlm]
  simp only [Sem.run_bind, partsP, Result.andThen]
  simp [ReflectliteValue.isNil, loadVar, isAgg, underlying, Tryd.underlying85, ha, Result.andThen]
theorem elemOfP (w : World) : (Rtype.elem? 85).run Tryd.prog w = .ok (some 84) w := by kernel_rfl
theorem mkF (p : Addr) (w : World) : (ReflectliteValue.mk 84 p ReflectliteValue.flagAddr).run Tryd.prog w = .ok (.agg #[hd 84, .pointer (some p), .int .u64 409]) w := by kernel_rfl
theorem elemVP (a p : Addr) (W : World) (ha : W.cell? a = some (.pointer (some p))) :
    (ReflectliteValue.method (ReflectliteValue.valueError "reflectlite.Value.Elem" 0) ReflectliteValue.elem #[.agg #[hd 85, .pointer (some a), .int .u64 150]]).run Tryd.prog W
      = .ok (.agg #[hd 84, .pointer (some p), .int .u64 409]) W := by
  rw [rlm]
  simp only [Sem.run_bind, partsP, Result.andThen]
  simp [ReflectliteValue.elem, loadVar, isAgg, underlying, Tryd.underlying85, ha, Result.andThen, elemOfP, mkF]
theorem rls (v x : Value) : ReflectliteValue.set #[v, x] = (do
    let (some (dst, a, fl), some (src, b, _)) := (← ReflectliteValue.parts v, ← ReflectliteValue.parts x)
      | unsupported (.noEntry "extern/(internal/reflectlite.Value).Set.zeroValue")
    if fl / ReflectliteValue.flagAddr % 2 == 0 then unsupported (.noEntry "extern/(internal/reflectlite.Value).Set.unaddressable")
    let val ← loadVar src b
    if ← Rtype.directlyAssignable dst src then storeVar dst a val
    else if ← Rtype.implements dst src then
      if (← Rtype.kind src) == 20 then
        match val with
        | .nilIface => unsupported (.noEntry "extern/reflectlite: a nil value of one interface type handed on as a value of another")
        | _ => storeVar dst a val
      else storeVar dst a (.iface src val)
    else panicString ("reflectlite.Set: value of type " ++ (← Rtype.spelt src) ++ " is not assignable to type " ++ (← Rtype.spelt dst))
    pure (.tuple #[])) := rfl
theorem partsFa (a : Addr) (w : World) : (ReflectliteValue.parts (.agg #[hd 84, .pointer (some a), .int .u64 409])).run Tryd.prog w = .ok (some (84, a, 409)) w := by kernel_rfl
theorem partsF (a : Addr) (w : World) : (ReflectliteValue.parts (.agg #[hd 84, .pointer (some a), .int .u64 153])).run Tryd.prog w = .ok (some (84, a, 153)) w := by kernel_rfl
theorem directF (w : World) : (Rtype.directlyAssignable 84 84).run Tryd.prog w = .ok true w := by kernel_rfl
theorem sizeF (w : World) : (sizeOf 84).run Tryd.prog w = .ok 2 w := by kernel_rfl
theorem setF (t : Addr) (bb : Nat) (n a : Int) (W W' : World) (hb0 : W.cell? ⟨bb, 0, none⟩ = some (.int .i64 n)) (hb1 : W.cell? ⟨bb, 1, none⟩ = some (.int .i64 a))
    (hst : (storeCells t [.int .i64 n, .int .i64 a]).run Tryd.prog W = .ok () W') :
    (ReflectliteValue.set #[.agg #[hd 84, .pointer (some t), .int .u64 409], .agg #[hd 84, .pointer (some ⟨bb, 0, none⟩), .int .u64 153]]).run Tryd.prog W = .ok (.tuple #[]) W' := by
  rw [rls]
  simp only [Sem.run_bind, partsFa, partsF, Result.andThen]
  simp [ReflectliteValue.flagAddr, loadVar, isAgg, underlying, Tryd.underlying84, Result.andThen, directF, storeVar, Value.cells, sizeF]
  have hl : (loadCells ⟨bb, 0, none⟩ 2).run Tryd.prog W = .ok #[.int .i64 n, .int .i64 a] W := by
    simp [loadCells, loadCellsFrom, run_load, hb0, hb1, Addr.add, Result.andThen]
  rw [hl]
  simp [hst]

/-- What errors.As lays, before it writes. -/
def laidP (w : World) (t : Addr) : World := ((w.alloc (.cells #[.pointer (some t)] 85)).alloc (.cells #[hd 85, .pointer (some ⟨w.heap.size, 0, none⟩), .int .u64 150] 96)).alloc (.cells #[hd 85, .pointer (some ⟨w.heap.size, 0, none⟩), .int .u64 150] 96)

set_option maxHeartbeats 4000000 in
theorem as_place (n a : Int) (t : Addr) (w W' : World) (hg : w.cell? ⟨0, 0, none⟩ = some (rt 28)) (ht : t.block < w.heap.size)
    (hst : (storeCells t [.int .i64 n, .int .i64 a]).run Tryd.prog ((laidP w t).alloc (.cells #[.int .i64 n, .int .i64 a] 84)) = .ok () W') :
    Calls Tryd.prog 32 #[.iface 84 (.agg #[.int .i64 n, .int .i64 a]), .iface 85 (.pointer (some t))] w fun ev w' => ev = .returned (.bool true) ∧ w' = W' := by
  have h6 := @run_callFunc_extern Tryd.prog 43 _ (fun args => ReflectliteValue.unpack (args.getD 0 (.tuple #[]))) Tryd.func43 (by kernel_rfl) (by kernel_rfl) (by kernel_rfl) (by kernel_rfl)
  have h7 := @run_callFunc_extern Tryd.prog 44 _ (ReflectliteValue.methodAny (ReflectliteValue.valueError "reflectlite.Value.Type" 0) (fun t _ _ _ => ReflectliteType.toType t)) Tryd.func44 (by kernel_rfl) (by kernel_rfl) (by kernel_rfl) (by kernel_rfl)
  have h8 := @run_callFunc_extern Tryd.prog 45 _ (ReflectliteValue.method (ReflectliteValue.valueError "reflectlite.Value.IsNil" 0) ReflectliteValue.isNil) Tryd.func45 (by kernel_rfl) (by kernel_rfl) (by kernel_rfl) (by kernel_rfl)
  have h27 := @run_callFunc_extern Tryd.prog 98 _ (ReflectliteType.abiMethod fun t => do pure (.int .u8 (← Rtype.kind t))) Tryd.func98 (by kernel_rfl) (by kernel_rfl) (by kernel_rfl) (by kernel_rfl)
  have h37 := @run_callFunc_extern Tryd.prog 111 _ (ReflectliteType.method ReflectliteType.elem) Tryd.func111 (by kernel_rfl) (by kernel_rfl) (by kernel_rfl) (by kernel_rfl)
  have h38 := @run_callFunc_extern Tryd.prog 112 _ (ReflectliteType.relation "Implements" ReflectliteType.implements_) Tryd.func112 (by kernel_rfl) (by kernel_rfl) (by kernel_rfl) (by kernel_rfl)
  have h10 := @run_callFunc_extern Tryd.prog 59 _ ReflectliteType.typeOf Tryd.func59 (by kernel_rfl) (by kernel_rfl) (by kernel_rfl) (by kernel_rfl)
  have h35 := @run_callFunc_extern Tryd.prog 109 _ (ReflectliteType.relation "AssignableTo" ReflectliteType.assignableTo) Tryd.func109 (by kernel_rfl) (by kernel_rfl) (by kernel_rfl) (by kernel_rfl)
  have h11 := @run_callFunc_extern Tryd.prog 60 _ (ReflectliteValue.method (ReflectliteValue.valueError "reflectlite.Value.Elem" 0) ReflectliteValue.elem) Tryd.func60 (by kernel_rfl) (by kernel_rfl) (by kernel_rfl) (by kernel_rfl)
  have h12 := @run_callFunc_extern Tryd.prog 61 _ ReflectliteValue.set Tryd.func61 (by kernel_rfl) (by kernel_rfl) (by kernel_rfl) (by kernel_rfl)
  have tO := typeOfF
  have mA := methodAssignableTo
  have a25 := assignF
  have v25 := valueOfF
  have f6 := valueOfP
  have f7 := typeP
  have mK := methodKind
  have mE := methodElem
  have mI := methodImplements
  have k27 := kindP
  have k25 := kindF
  have e27 := elemP
  have i25 := implF
  have hlt : 0 < w.heap.size := by
    rcases Nat.lt_or_ge 0 w.heap.size with h | h
    · exact h
    · simp [World.cell?, Array.getElem?_eq_none h] at hg
  have n8 := isNilP ⟨w.heap.size, 0, none⟩ t ((w.alloc (.cells #[.pointer (some t)] 85)).alloc (.cells #[hd 85, .pointer (some ⟨w.heap.size, 0, none⟩), .int .u64 150] 96)) (by simp)
  have hg2 : ((w.alloc (.cells #[.pointer (some t)] 85)).alloc (.cells #[hd 85, .pointer (some ⟨w.heap.size, 0, none⟩), .int .u64 150] 96)).cell? ⟨0, 0, none⟩ = some (rt 28) := by
    rw [World.cell?_alloc_lt _ _ ⟨0, 0, none⟩ (by first | (simp; done) | (simp; omega)), World.cell?_alloc_lt _ _ ⟨0, 0, none⟩ hlt]; exact hg
  have el := elemVP ⟨w.heap.size, 0, none⟩ t (laidP w t) (by unfold laidP; rw [World.cell?_alloc_lt _ _ ⟨w.heap.size, 0, none⟩ (by simp; omega)]; simp)
  have st := setF t (w.heap.size + 1 + 1 + 1) n a ((laidP w t).alloc (.cells #[.int .i64 n, .int .i64 a] 84)) W'
    (by rw [World.cell?_alloc_at _ _ _ _ (by simp [laidP])]; rfl)
    (by rw [World.cell?_alloc_at _ _ _ _ (by simp [laidP])]; rfl) hst
  unfold laidP at el st
  clear hst
  go_enter Tryd.func32, Tryd.ntmps32
  go_wp2
  refine wp_loop_rounds 1 ?_
  rw [rounds_succ]
  go_wp2
  go_ret
  exact ⟨rfl, rfl⟩
end Go.Proofs.YtgfkjldohilmkaaDoor.As
/- errors.As at the target *Errno: a Fault's number, behind its Unwrap. -/
set_option linter.unusedVariables false
set_option linter.unusedSimpArgs false
namespace Go.Proofs.YtgfkjldohilmkaaDoor.As
open Go Go.RowKit Go.Extern.Stop Go.Stop Go.Extern
set_option maxRecDepth 100000

theorem valueOfQ (t : Addr) (w : World) : (ReflectliteValue.unpack (.iface 82 (.pointer (some t)))).run Tryd.prog w
    = .ok (.agg #[hd 82, .pointer (some ⟨w.heap.size, 0, none⟩), .int .u64 150]) (w.alloc (.cells #[.pointer (some t)] 82)) := by kernel_rfl
theorem typeQ (a : Addr) (w : World) : (ReflectliteValue.methodAny (ReflectliteValue.valueError "reflectlite.Value.Type" 0) (fun t _ _ _ => ReflectliteType.toType t) #[.agg #[hd 82, .pointer (some a), .int .u64 150]]).run Tryd.prog w = .ok (rt 82) w := by kernel_rfl
theorem kindQ (w : World) : ((ReflectliteType.abiMethod fun t => (fun a : Nat => Value.int IntKind.u8 (a : Int)) <$> Rtype.kind t) #[hd 82]).run Tryd.prog w = .ok (.int .u8 22) w := by kernel_rfl
theorem kindE (w : World) : ((ReflectliteType.abiMethod fun t => (fun a : Nat => Value.int IntKind.u8 (a : Int)) <$> Rtype.kind t) #[hd 44]).run Tryd.prog w = .ok (.int .u8 2) w := by kernel_rfl
theorem elemQ (w : World) : (ReflectliteType.method ReflectliteType.elem #[.agg #[hd 82]]).run Tryd.prog w = .ok (rt 44) w := by kernel_rfl
theorem implE (w : World) : (ReflectliteType.relation "Implements" ReflectliteType.implements_ #[.agg #[hd 44], rt 28]).run Tryd.prog w = .ok (.bool true) w := by kernel_rfl
theorem typeOfE (v : Value) (w : World) : (ReflectliteType.typeOf #[.iface 44 v]).run Tryd.prog w = .ok (rt 44) w := by kernel_rfl
theorem assignFE (w : World) : (ReflectliteType.relation "AssignableTo" ReflectliteType.assignableTo #[.agg #[hd 84], rt 44]).run Tryd.prog w = .ok (.bool false) w := by kernel_rfl
theorem assignE (w : World) : (ReflectliteType.relation "AssignableTo" ReflectliteType.assignableTo #[.agg #[hd 44], rt 44]).run Tryd.prog w = .ok (.bool true) w := by kernel_rfl
theorem valueOfE (n : Int) (w : World) : (ReflectliteValue.unpack (.iface 44 (.int .i64 n))).run Tryd.prog w
    = .ok (.agg #[hd 44, .pointer (some ⟨w.heap.size, 0, none⟩), .int .u64 130]) (w.alloc (.cells #[.int .i64 n] 44)) := by kernel_rfl
theorem partsQ (a : Addr) (w : World) : (ReflectliteValue.parts (.agg #[hd 82, .pointer (some a), .int .u64 150])).run Tryd.prog w = .ok (some (82, a, 150)) w := by kernel_rfl
theorem isNilQ (a p : Addr) (W : World) (ha : W.cell? a = some (.pointer (some p))) :
    (ReflectliteValue.method (ReflectliteValue.valueError "reflectlite.Value.IsNil" 0) ReflectliteValue.isNil #[.agg #[hd 82, .pointer (some a), .int .u64 150]]).run Tryd.prog W = .ok (.bool false) W := by
  rw [rlm]
  simp only [Sem.run_bind, partsQ, Result.andThen]
  simp [ReflectliteValue.isNil, loadVar, isAgg, underlying, Tryd.underlying82, ha, Result.andThen]
theorem elemOfQ (w : World) : (Rtype.elem? 82).run Tryd.prog w = .ok (some 44) w := by kernel_rfl
theorem mkE (p : Addr) (w : World) : (ReflectliteValue.mk 44 p ReflectliteValue.flagAddr).run Tryd.prog w = .ok (.agg #[hd 44, .pointer (some p), .int .u64 386]) w := by kernel_rfl
theorem elemVQ (a p : Addr) (W : World) (ha : W.cell? a = some (.pointer (some p))) :
    (ReflectliteValue.method (ReflectliteValue.valueError "reflectlite.Value.Elem" 0) ReflectliteValue.elem #[.agg #[hd 82, .pointer (some a), .int .u64 150]]).run Tryd.prog W
      = .ok (.agg #[hd 44, .pointer (some p), .int .u64 386]) W := by
  rw [rlm]
  simp only [Sem.run_bind, partsQ, Result.andThen]
  simp [ReflectliteValue.elem, loadVar, isAgg, underlying, Tryd.underlying82, ha, Result.andThen, elemOfQ, mkE]
theorem partsEa (a : Addr) (w : World) : (ReflectliteValue.parts (.agg #[hd 44, .pointer (some a), .int .u64 386])).run Tryd.prog w = .ok (some (44, a, 386)) w := by kernel_rfl
theorem partsE (a : Addr) (w : World) : (ReflectliteValue.parts (.agg #[hd 44, .pointer (some a), .int .u64 130])).run Tryd.prog w = .ok (some (44, a, 130)) w := by kernel_rfl
theorem directE (w : World) : (Rtype.directlyAssignable 44 44).run Tryd.prog w = .ok true w := by kernel_rfl
theorem sizeE (w : World) : (sizeOf 44).run Tryd.prog w = .ok 1 w := by kernel_rfl
theorem setE (t : Addr) (bb : Nat) (n : Int) (W W' : World) (hb0 : W.cell? ⟨bb, 0, none⟩ = some (.int .i64 n))
    (hst : (storeCells t [.int .i64 n]).run Tryd.prog W = .ok () W') :
    (ReflectliteValue.set #[.agg #[hd 44, .pointer (some t), .int .u64 386], .agg #[hd 44, .pointer (some ⟨bb, 0, none⟩), .int .u64 130]]).run Tryd.prog W = .ok (.tuple #[]) W' := by
  rw [rls]
  simp only [Sem.run_bind, partsEa, partsE, Result.andThen]
  simp [ReflectliteValue.flagAddr, loadVar, isAgg, underlying, Tryd.underlying44, Result.andThen, directE, storeVar, Value.cells, sizeE, hb0, hst]
theorem methodUnwrap (v : Value) (w : World) : (Go.method 285 84 v "Unwrap").run Tryd.prog w = .ok (104, v) w := by kernel_rfl
theorem unwrap (n a : Int) (w : World) : Calls Tryd.prog 104 #[.agg #[.int .i64 n, .int .i64 a]] w fun ev w' => ev = .returned (.iface 44 (.int .i64 n)) ∧ w' = w.alloc (.cells #[.int .i64 n, .int .i64 a] 84) := by
  go_enter Tryd.func104, Tryd.ntmps104
  go_wp2
  go_ret
  exact ⟨rfl, rfl⟩
def laidQ (w : World) (t : Addr) : World := ((w.alloc (.cells #[.pointer (some t)] 82)).alloc (.cells #[hd 82, .pointer (some ⟨w.heap.size, 0, none⟩), .int .u64 150] 96)).alloc (.cells #[hd 82, .pointer (some ⟨w.heap.size, 0, none⟩), .int .u64 150] 96)

set_option maxHeartbeats 4000000 in
theorem as_number (n a : Int) (t : Addr) (w W' : World) (hg : w.cell? ⟨0, 0, none⟩ = some (rt 28)) (ht : t.block < w.heap.size)
    (hst : (storeCells t [.int .i64 n]).run Tryd.prog (((laidQ w t).alloc (.cells #[.int .i64 n, .int .i64 a] 84)).alloc (.cells #[.int .i64 n] 44)) = .ok () W') :
    Calls Tryd.prog 32 #[.iface 84 (.agg #[.int .i64 n, .int .i64 a]), .iface 82 (.pointer (some t))] w fun ev w' => ev = .returned (.bool true) ∧ w' = W' := by
  have h6 := @run_callFunc_extern Tryd.prog 43 _ (fun args => ReflectliteValue.unpack (args.getD 0 (.tuple #[]))) Tryd.func43 (by kernel_rfl) (by kernel_rfl) (by kernel_rfl) (by kernel_rfl)
  have h7 := @run_callFunc_extern Tryd.prog 44 _ (ReflectliteValue.methodAny (ReflectliteValue.valueError "reflectlite.Value.Type" 0) (fun t _ _ _ => ReflectliteType.toType t)) Tryd.func44 (by kernel_rfl) (by kernel_rfl) (by kernel_rfl) (by kernel_rfl)
  have h8 := @run_callFunc_extern Tryd.prog 45 _ (ReflectliteValue.method (ReflectliteValue.valueError "reflectlite.Value.IsNil" 0) ReflectliteValue.isNil) Tryd.func45 (by kernel_rfl) (by kernel_rfl) (by kernel_rfl) (by kernel_rfl)
  have h27 := @run_callFunc_extern Tryd.prog 98 _ (ReflectliteType.abiMethod fun t => do pure (.int .u8 (← Rtype.kind t))) Tryd.func98 (by kernel_rfl) (by kernel_rfl) (by kernel_rfl) (by kernel_rfl)
  have h37 := @run_callFunc_extern Tryd.prog 111 _ (ReflectliteType.method ReflectliteType.elem) Tryd.func111 (by kernel_rfl) (by kernel_rfl) (by kernel_rfl) (by kernel_rfl)
  have h38 := @run_callFunc_extern Tryd.prog 112 _ (ReflectliteType.relation "Implements" ReflectliteType.implements_) Tryd.func112 (by kernel_rfl) (by kernel_rfl) (by kernel_rfl) (by kernel_rfl)
  have h10 := @run_callFunc_extern Tryd.prog 59 _ ReflectliteType.typeOf Tryd.func59 (by kernel_rfl) (by kernel_rfl) (by kernel_rfl) (by kernel_rfl)
  have h35 := @run_callFunc_extern Tryd.prog 109 _ (ReflectliteType.relation "AssignableTo" ReflectliteType.assignableTo) Tryd.func109 (by kernel_rfl) (by kernel_rfl) (by kernel_rfl) (by kernel_rfl)
  have h11 := @run_callFunc_extern Tryd.prog 60 _ (ReflectliteValue.method (ReflectliteValue.valueError "reflectlite.Value.Elem" 0) ReflectliteValue.elem) Tryd.func60 (by kernel_rfl) (by kernel_rfl) (by kernel_rfl) (by kernel_rfl)
  have h12 := @run_callFunc_extern Tryd.prog 61 _ ReflectliteValue.set Tryd.func61 (by kernel_rfl) (by kernel_rfl) (by kernel_rfl) (by kernel_rfl)
  have tO := typeOfF
  have tO2 := typeOfE
  have mA := methodAssignableTo
  have a25 := assignFE
  have a26 := assignE
  have v25 := valueOfE
  have f6 := valueOfQ
  have f7 := typeQ
  have mK := methodKind
  have mE := methodElem
  have mI := methodImplements
  have k27 := kindQ
  have k25 := kindE
  have e27 := elemQ
  have i25 := implE
  have hlt : 0 < w.heap.size := by
    rcases Nat.lt_or_ge 0 w.heap.size with h | h
    · exact h
    · simp [World.cell?, Array.getElem?_eq_none h] at hg
  have n8 := isNilQ ⟨w.heap.size, 0, none⟩ t ((w.alloc (.cells #[.pointer (some t)] 82)).alloc (.cells #[hd 82, .pointer (some ⟨w.heap.size, 0, none⟩), .int .u64 150] 96)) (by simp)
  have hg2 : ((w.alloc (.cells #[.pointer (some t)] 82)).alloc (.cells #[hd 82, .pointer (some ⟨w.heap.size, 0, none⟩), .int .u64 150] 96)).cell? ⟨0, 0, none⟩ = some (rt 28) := by
    rw [World.cell?_alloc_lt _ _ ⟨0, 0, none⟩ (by first | (simp; done) | (simp; omega)), World.cell?_alloc_lt _ _ ⟨0, 0, none⟩ hlt]; exact hg
  have el := elemVQ ⟨w.heap.size, 0, none⟩ t ((laidQ w t).alloc (.cells #[.int .i64 n, .int .i64 a] 84)) (by unfold laidQ; rw [World.cell?_alloc_lt _ _ ⟨w.heap.size, 0, none⟩ (by simp; omega)]; rw [World.cell?_alloc_lt _ _ ⟨w.heap.size, 0, none⟩ (by simp; omega)]; simp)
  have st := setE t (w.heap.size + 1 + 1 + 1 + 1) n (((laidQ w t).alloc (.cells #[.int .i64 n, .int .i64 a] 84)).alloc (.cells #[.int .i64 n] 44)) W'
    (by rw [World.cell?_alloc_at _ _ _ _ (by simp [laidQ])]; rfl) hst
  have mU := methodUnwrap
  have tA := fun (v : Value) (xT : TypeId) (w : World) => run_typeAssert_lacksB (P := Tryd.prog) (t := 84) (asserted := 125) Tryd.underlying125 (by kernel_rfl) (z := .nilIface) (by kernel_rfl) v xT w
  have tU := fun (v : Value) (xT : TypeId) (w : World) => run_typeAssert_hasB (P := Tryd.prog) (t := 84) (asserted := 128) Tryd.underlying128 (by kernel_rfl) v xT w
  unfold laidQ at el st
  clear hst
  go_enter Tryd.func32, Tryd.ntmps32
  go_wp2
  refine wp_loop_rounds 2 ?_
  rw [rounds_succ]
  go_wp2_with (go_at_call 104; refine (unwrap n a _).mono ?_; rintro e w' ⟨rfl, rfl⟩)
  rw [rounds_succ]
  go_wp2
  go_ret
  exact ⟨rfl, rfl⟩
end Go.Proofs.YtgfkjldohilmkaaDoor.As

set_option linter.unusedVariables false
set_option linter.unusedSimpArgs false
namespace Go.Proofs.YtgfkjldohilmkaaDoor.Ab
open Go Go.RowKit
set_option maxHeartbeats 1000000
set_option maxRecDepth 100000

/-- The library's type of an error lies in the world. -/
abbrev ErrT (w : World) : Prop := w.cell? ⟨0, 0, none⟩ = some (As.rt 28)
theorem errT_at {w0 w : World} {G : Loc} {m : Mem} (h : ErrT w0) (hs : St Tryd.prog w0 G m w) : ErrT w := by
  have hlt : 0 < w0.heap.size := by
    rcases Nat.lt_or_ge 0 w0.heap.size with h' | h'
    · exact h'
    · simp [ErrT, World.cell?, Array.getElem?_eq_none h'] at h
  unfold ErrT World.cell? at h ⊢
  rw [hs.below.block 0 hlt]; exact h
theorem c_asPlace {w0 : World} {m : Mem} {i : Nat} {n a : Int} {c0 c1 : Value} {Q : Value → Mem → Prop} (hT : ErrT w0) (hg : m.get i = .own [c0, c1] 84) (hq : Q (.bool true) (m.set i (.own [.int .i64 n, .int .i64 a] 84))) :
    AbC Tryd.prog w0 32 [.iface 84 (.agg ⟨[.int .i64 n, .int .i64 a]⟩), .iface 85 (.pointer (some ⟨i, 0, none⟩))] m Q := by
  intro G w args' hs hargs
  cases hargs with
  | cons _ v1 _ l1 h1 hargs =>
  cases hargs with
  | cons _ v2 _ l2 h2 hargs =>
  cases hargs
  have e1 : v1 = .iface 84 (.agg ⟨[.int .i64 n, .int .i64 a]⟩) := VR.plain_eq 6 _ _ rfl h1
  subst e1
  cases h2 with
  | iface _ _ v2 h2 =>
  cases h2 with
  | ptr _ _ B b S hG =>
  rw [run_callFunc_enter (by kernel_rfl)]
  show Calls _ _ _ _ _
  have hlt : B < w.heap.size := hs.lim i B b S (by rw [hg]; simp) hG
  have hbel : Below w.heap.size w ((As.laidP w ⟨B, b + 0, none⟩).alloc (.cells #[.int .i64 n, .int .i64 a] 84)) :=
    ((((Below.refl _ w).alloc (by simp) _).alloc (by simp) _).alloc (by simp; omega) _).alloc (by simp [As.laidP]; omega) _
  have hs4 := hs.grown hbel
  obtain ⟨w', h3, h4⟩ := snd_put (o := 0) (vs := [.int .i64 n, .int .i64 a]) (vs' := [.int .i64 n, .int .i64 a]) hs4 hG hg (by simp) (.cons _ _ _ _ (.int _ _) (.cons _ _ _ _ (.int _ _) .nil)) rfl
  refine (As.as_place n a ⟨B, b + 0, none⟩ w w' (errT_at hT hs) hlt h3).mono ?_
  rintro e w2 ⟨rfl, rfl⟩
  exact ⟨_, rfl, G, .bool true, _, Loc.le_refl G, .bool true, h4, hq⟩
theorem c_asNumber {w0 : World} {m : Mem} {i : Nat} {n a : Int} {c0 : Value} {Q : Value → Mem → Prop} (hT : ErrT w0) (hg : m.get i = .own [c0] 44) (hq : Q (.bool true) (m.set i (.own [.int .i64 n] 44))) :
    AbC Tryd.prog w0 32 [.iface 84 (.agg ⟨[.int .i64 n, .int .i64 a]⟩), .iface 82 (.pointer (some ⟨i, 0, none⟩))] m Q := by
  intro G w args' hs hargs
  cases hargs with
  | cons _ v1 _ l1 h1 hargs =>
  cases hargs with
  | cons _ v2 _ l2 h2 hargs =>
  cases hargs
  have e1 : v1 = .iface 84 (.agg ⟨[.int .i64 n, .int .i64 a]⟩) := VR.plain_eq 6 _ _ rfl h1
  subst e1
  cases h2 with
  | iface _ _ v2 h2 =>
  cases h2 with
  | ptr _ _ B b S hG =>
  rw [run_callFunc_enter (by kernel_rfl)]
  show Calls _ _ _ _ _
  have hlt : B < w.heap.size := hs.lim i B b S (by rw [hg]; simp) hG
  have hbel : Below w.heap.size w (((As.laidQ w ⟨B, b + 0, none⟩).alloc (.cells #[.int .i64 n, .int .i64 a] 84)).alloc (.cells #[.int .i64 n] 44)) :=
    (((((Below.refl _ w).alloc (by simp) _).alloc (by simp) _).alloc (by simp; omega) _).alloc (by simp [As.laidQ]; omega) _).alloc (by simp [As.laidQ]; omega) _
  have hs4 := hs.grown hbel
  obtain ⟨w', h3, h4⟩ := snd_put (o := 0) (vs := [.int .i64 n]) (vs' := [.int .i64 n]) hs4 hG hg (by simp) (.cons _ _ _ _ (.int _ _) .nil) rfl
  refine (As.as_number n a ⟨B, b + 0, none⟩ w w' (errT_at hT hs) hlt h3).mono ?_
  rintro e w2 ⟨rfl, rfl⟩
  exact ⟨_, rfl, G, .bool true, _, Loc.le_refl G, .bool true, h4, hq⟩

theorem c_Place {w0 : World} {m : Mem} {n a : Nat} {Q : Value → Mem → Prop} (hT : ErrT w0) (hq : ∀ m', Old m m' → Q (.int .i64 (a : Int)) m') : AbC Tryd.prog w0 19 [faultV n a] m Q := by
  refine AbC_fn ok19 (by simp) ?_
  simp -implicitDefEqProofs (disch := first | assumption | (simp only [wnA]; done) | (simp only [wnA]; omega) | omega | fail) [rc19, ro19, wkA, retV, stabOk, dC, ev, fillD, pickCells, putAt, bnd, slD, List.getElem?_cons_zero, List.getElem?_cons_succ, dR.eq_20, Mem.cell, Mem.row, wmA, faultV]
  refine c_asPlace hT (c0 := .int .i64 0) (c1 := .int .i64 0) (by simp) ?_
  simp -implicitDefEqProofs (disch := first | assumption | (simp only [wnA]; done) | (simp only [wnA]; omega) | omega | fail) [wkA, retV, stabOk, dC, ev, fillD, pickCells, putAt, bnd, slD, List.getElem?_cons_zero, List.getElem?_cons_succ, dR.eq_20, Mem.cell, Mem.row, wmA]
  exact hq _ (((Old.refl m).push _).set (Nat.le_refl _) _)
theorem c_Number {w0 : World} {m : Mem} {n a : Nat} {Q : Value → Mem → Prop} (hT : ErrT w0) (hq : ∀ m', Old m m' → Q (.int .i64 (n : Int)) m') : AbC Tryd.prog w0 18 [faultV n a] m Q := by
  refine AbC_fn ok18 (by simp) ?_
  simp -implicitDefEqProofs (disch := first | assumption | (simp only [wnA]; done) | (simp only [wnA]; omega) | omega | fail) [rc18, ro18, wkA, retV, stabOk, dC, ev, fillD, pickCells, putAt, bnd, slD, List.getElem?_cons_zero, List.getElem?_cons_succ, dR.eq_20, Mem.cell, Mem.row, wmA, faultV]
  refine c_asNumber hT (c0 := .int .i64 0) (by simp) ?_
  simp -implicitDefEqProofs (disch := first | assumption | (simp only [wnA]; done) | (simp only [wnA]; omega) | omega | fail) [wkA, retV, stabOk, dC, ev, fillD, pickCells, putAt, bnd, slD, List.getElem?_cons_zero, List.getElem?_cons_succ, dR.eq_20, Mem.cell, Mem.row, wmA]
  exact hq _ (((Old.refl m).push _).set (Nat.le_refl _) _)
theorem et : Tryd.prog.globalNamed "errors.errorType" = some 0 := by kernel_rfl
theorem rtN : (Tryd.prog.cutTypes.find? (·.1 == "internal/reflectlite.rtype")).map (·.2) = some 120 := by kernel_rfl
theorem oneRow : ((List.range 185).filter fun t => Tryd.prog.rowNamed t [101, 114, 114, 111, 114]) = [28] := by kernel_rfl
theorem tsize : Tryd.prog.types.size = 185 := by kernel_rfl
/-- What the rows lay of errors.errorType. -/
theorem errT_of {l : List (String × DataW Unit)} {W : World} (h : handlesMet Tryd.prog l W) (hm : ("errors.errorType", DataW.iface "internal/reflectlite.rtype" (.agg [.ptr (.lit (.string [101, 114, 114, 111, 114]))])) ∈ l) : ErrT W := by
  obtain ⟨name, u, ty, e1, e2, e3, e4, e5⟩ := h _ hm
  have en : name = [101, 114, 114, 111, 114] := (Option.some.inj e1).symm
  subst en
  obtain rfl := Option.some.inj (rtN.symm.trans e2)
  have hm : ty ∈ (List.range 185).filter fun t => Tryd.prog.rowNamed t [101, 114, 114, 111, 114] := List.mem_filter.2 ⟨List.mem_range.2 (by rw [← tsize]; exact e3), e4⟩
  rw [oneRow] at hm
  obtain rfl := List.mem_singleton.1 hm
  have hh : typeHandle Tryd.prog 28 = .pointer (some ⟨7, 28, none⟩) := by kernel_rfl
  rw [hh] at e5
  have := World.var?_cell et e5 0
  show W.cell? ⟨0, 0, none⟩ = _
  rw [this]; rfl
end Go.Proofs.YtgfkjldohilmkaaDoor.Ab

set_option linter.unusedVariables false
set_option linter.unusedSimpArgs false
namespace Go.Proofs.YtgfkjldohilmkaaDoor.Ab
open Go Go.RowKit
set_option maxRecDepth 100000

/-! Names in quotes. -/
def StrOk (t : List UInt8) : Prop := ∃ e, escL t = some e ∧ ∀ r, qd (e ++ 34 :: r) = some (e.length + 1, t)
theorem strOk_nil : StrOk [] := ⟨[], rfl, fun r => qd_q rfl⟩
theorem esc_round {c : UInt8} {a : List UInt8} (h : escC c = some a) {X : List UInt8} {n : Nat} {t : List UInt8} (hX : qd X = some (n, t)) : qd (a ++ X) = some (n + a.length, c :: t) := by
  unfold escC at h
  split at h
  · rename_i hc
    have : c = 13 := UInt8.toNat_inj.1 hc
    subst this
    cases h
    show qd (92 :: 114 :: X) = _
    rw [qd_e2 rfl (show escD 114 = some 13 from rfl), hX]
    rfl
  · split at h
    · rename_i hc
      have : c = 10 := UInt8.toNat_inj.1 hc
      subst this
      cases h
      show qd (92 :: 110 :: X) = _
      rw [qd_e2 rfl (show escD 110 = some 10 from rfl), hX]
      rfl
    · split at h
      · cases h
      · rename_i hr
        split at h
        · rename_i hc
          cases h
          show qd (92 :: c :: X) = _
          have hd : escD c = some c := by
            rcases hc with hc | hc
            · have : c = 34 := UInt8.toNat_inj.1 hc
              subst this; rfl
            · have : c = 92 := UInt8.toNat_inj.1 hc
              subst this; rfl
          rw [qd_e2 rfl hd, hX]
          rfl
        · rename_i hc
          cases h
          show qd (c :: X) = _
          rw [qd_ch hr (fun e => hc (.inl e)) (fun e => hc (.inr e)), hX]
          rfl
theorem strOk_cons {c : UInt8} {t : List UInt8} (hc : (escC c).isSome = true) (ht : StrOk t) : StrOk (c :: t) := by
  obtain ⟨a, ha⟩ := Option.isSome_iff_exists.1 hc
  obtain ⟨e, he, hq⟩ := ht
  refine ⟨a ++ e, by simp [escL, ha, he], fun r => ?_⟩
  rw [List.append_assoc, esc_round ha (hq r), List.length_append]
  congr 2
  omega
theorem esc_x {e x : UInt8} (h : escD e = some x) : (escC x).isSome = true := by
  unfold escD at h
  split at h
  · cases h; rfl
  · split at h
    · cases h; rfl
    · split at h
      · cases h; rfl
      · split at h
        · cases h; rfl
        · cases h
theorem esc_c {c : UInt8} (h : ¬ (c.toNat < 32 ∨ 126 < c.toNat)) : (escC c).isSome = true := by
  unfold escC
  rw [if_neg (by omega), if_neg (by omega), if_neg h]
  split <;> rfl
theorem qd_ok : ∀ {l : List UInt8} {n : Nat} {t : List UInt8}, qd l = some (n, t) → StrOk t ∧ t.length ≤ n
  | [], _, _, h => by simp [qd] at h
  | [c], n, t, h => by
    simp only [qd] at h
    split at h
    · cases h; exact ⟨strOk_nil, by simp⟩
    · cases h
  | c :: e :: r, n, t, h => by
    simp only [qd] at h
    split at h
    · cases h; exact ⟨strOk_nil, by simp⟩
    · split at h
      · cases h
      · rename_i hr
        split at h
        · split at h
          · rename_i x hx
            cases hq : qd r with
            | none => simp [hq] at h
            | some p =>
              simp only [hq, Option.map_some, Option.some.injEq, Prod.mk.injEq] at h
              obtain ⟨rfl, rfl⟩ := h
              have := qd_ok (n := p.1) (t := p.2) hq
              exact ⟨strOk_cons (esc_x hx) this.1, by have := this.2; simp; omega⟩
          · cases h
        · cases hq : qd (e :: r) with
          | none => simp [hq] at h
          | some p =>
            simp only [hq, Option.map_some, Option.some.injEq, Prod.mk.injEq] at h
            obtain ⟨rfl, rfl⟩ := h
            have := qd_ok (n := p.1) (t := p.2) hq
            exact ⟨strOk_cons (esc_c hr) this.1, by have := this.2; simp; omega⟩

/-! What tokens hold. -/
def TkOk (N : Nat) (t : Tk) : Prop := (t.kd = 2 → 0 ≤ t.vl ∧ t.vl ≤ 4294967295) ∧ (t.kd = 3 → StrOk t.tx) ∧ t.tx.length ≤ N
theorem numV_le {l : List UInt8} {v : Nat} (h : numV l = some v) : v ≤ 4294967295 := by
  unfold numV at h
  split at h
  · rename_i w hw
    split at h
    · cases h
      exact puL_le _ _ _ (by omega) hw
    · cases h
  · cases h
theorem oneL_ok {l : List UInt8} {t : Tk} {n : Nat} (h : oneL l = some (t, n)) : TkOk l.length t := by
  cases l with
  | nil => simp [oneL] at h
  | cons c r =>
    have tk : ∀ k : Nat, ((c :: r).take k).length ≤ (c :: r).length := fun k => by rw [List.length_take]; omega
    simp only [oneL] at h
    split at h
    · simp only [Option.some.injEq, Prod.mk.injEq] at h
      obtain ⟨rfl, rfl⟩ := h
      exact ⟨(fun h => absurd (show (1 : Int) = 2 from h) (by decide)), (fun h => absurd (show (1 : Int) = 3 from h) (by decide)), tk _⟩
    · split at h
      · cases hv : numV (c :: r) with
        | none => simp [hv] at h
        | some v =>
          simp only [hv, Option.map_some, Option.some.injEq, Prod.mk.injEq] at h
          obtain ⟨rfl, rfl⟩ := h
          have := numV_le hv
          exact ⟨(fun _ => by show (0 : Int) ≤ (v : Int) ∧ (v : Int) ≤ 4294967295; omega), (fun h => absurd (show (2 : Int) = 3 from h) (by decide)), tk _⟩
      · split at h
        · cases hq : qd r with
          | none => simp [hq] at h
          | some p =>
            simp only [hq, Option.map_some, Option.some.injEq, Prod.mk.injEq] at h
            obtain ⟨rfl, rfl⟩ := h
            have h1 := qd_ok (n := p.1) (t := p.2) hq
            have h2 := qd_len (n := p.1) (t := p.2) hq
            exact ⟨(fun h => absurd (show (3 : Int) = 2 from h) (by decide)), (fun _ => h1.1), by show p.2.length ≤ r.length + 1; omega⟩
        · split at h
          · simp only [Option.some.injEq, Prod.mk.injEq] at h
            obtain ⟨rfl, rfl⟩ := h
            exact ⟨(fun h => absurd (show (4 : Int) = 2 from h) (by decide)), (fun h => absurd (show (4 : Int) = 3 from h) (by decide)), by simp⟩
          · cases h
theorem endT_ok (N : Nat) : TkOk N endT := ⟨(fun h => absurd (show (0 : Int) = 2 from h) (by decide)), (fun h => absurd (show (0 : Int) = 3 from h) (by decide)), by simp [endT]⟩
theorem TkOk.mono {N M : Nat} {t : Tk} (h : TkOk N t) (hNM : N ≤ M) : TkOk M t := ⟨h.1, h.2.1, Nat.le_trans h.2.2 hNM⟩
theorem preC_inr {ts us : List (Tk × Nat)} {c : Cuts} (h : preC ts c = .inr us) : ∃ vs, c = .inr vs ∧ us = ts ++ vs := by
  cases c with
  | inl e => cases h
  | inr vs => cases h; exact ⟨vs, rfl, rfl⟩
theorem cutF_ok (N : Nat) : ∀ (k a : Nat) (l : List UInt8) (us : List (Tk × Nat)), l.length ≤ N → cutF k a l = .inr us → ∀ p ∈ us, TkOk N p.1
  | 0, a, l, us, hl, h => by cases h; intro p hp; simp at hp; subst hp; exact endT_ok N
  | k + 1, a, [], us, hl, h => by cases h; intro p hp; simp at hp; subst hp; exact endT_ok N
  | k + 1, a, c :: r, us, hl, h => by
    simp only [cutF] at h
    have hl' : r.length + 1 ≤ N := hl
    split at h
    · exact cutF_ok N k _ r us (by omega) h
    · split at h
      · exact cutF_ok N k _ _ us (by rw [List.length_drop]; simp; omega) h
      · split at h
        · cases h
        · rename_i t n ho
          obtain ⟨vs, hv, rfl⟩ := preC_inr h
          intro p hp
          rcases List.mem_append.1 hp with hp | hp
          · simp at hp; subst hp
            exact (oneL_ok ho).mono hl
          · exact cutF_ok N k _ _ vs (by rw [List.length_drop]; simp; omega) hv p hp
theorem PlL_at {L : List UInt8} : ∀ {us : List (Tk × Nat)} {pr : Int}, PlL L pr us → ∀ p ∈ us, p.2 ≤ L.length
  | [], _, _, p, hp => by cases hp
  | q :: us, pr, h, p, hp => by
    obtain ⟨-, -, h3, -, h5⟩ := h
    rcases List.mem_cons.1 hp with rfl | hp
    · exact h3
    · exact PlL_at h5 p hp
end Go.Proofs.YtgfkjldohilmkaaDoor.Ab
/- A manifest's text has the tokens of its entries, and the parser reads them (plain law; no program). -/
set_option linter.unusedVariables false
set_option linter.unusedSimpArgs false
namespace Go.Proofs.YtgfkjldohilmkaaDoor.Ab
open Go Go.RowKit
set_option maxRecDepth 100000

def EnG (e : En) : Prop := StrOk e.nm.data.toList ∧ (0 ≤ e.a ∧ e.a ≤ 4294967295) ∧ (0 ≤ e.s ∧ e.s ≤ 4294967295) ∧ (0 ≤ e.p ∧ e.p ≤ 4294967295) ∧ (e.w = 0 ∨ e.w = 1 ∨ e.w = 2 ∨ e.w = 3)

/-! One text begins with these tokens; what comes behind. -/
def Cx (l : List UInt8) (ts : List Tk) (r : List UInt8) : Prop := ∀ a, ∃ a' us, us.map (·.1) = ts ∧ cutL a l = preC us (cutL a' r)
theorem Cx.refl (l : List UInt8) : Cx l [] l := fun a => ⟨a, [], rfl, (preC_nil _).symm⟩
theorem Cx.trans {l r r' : List UInt8} {ts ts' : List Tk} (h : Cx l ts r) (k : Cx r ts' r') : Cx l (ts ++ ts') r' := fun a => by
  obtain ⟨a1, us, e, h1⟩ := h a
  obtain ⟨a2, vs, e2, h2⟩ := k a1
  exact ⟨a2, us ++ vs, by simp [e, e2], by rw [h1, h2, preC_pre]⟩
theorem cx_bl {c : UInt8} {r : List UInt8} (h : isBl c = true) : Cx (c :: r) [] r := fun a => ⟨a + 1, [], rfl, by rw [cutL_bl h, preC_nil]⟩
theorem cx_tok {c : UInt8} {l r : List UInt8} {t : Tk} (hb : isBl c = false) (h2 : c.toNat ≠ 35) (ho : oneL (c :: l ++ r) = some (t, (c :: l).length)) : Cx (c :: l ++ r) [t] r := fun a => by
  refine ⟨a + (c :: l).length, [(t, a)], rfl, ?_⟩
  have this : cutL a (c :: l ++ r) = preC [(t, a)] (cutL (a + (c :: l).length) ((c :: l ++ r).drop (c :: l).length)) := cutL_some hb h2 ho
  rw [List.drop_left] at this
  exact this
theorem wordN_app : ∀ (w : List UInt8) (b : Bool) {x : UInt8} {r : List UInt8}, wordN b w = w.length → w ≠ [] → wq true x = false → wordN b (w ++ x :: r) = w.length
  | [], _, _, _, _, h, _ => absurd rfl h
  | c :: w, b, x, r, h, _, hx => by
    simp only [wordN, List.length_cons] at h
    simp only [List.cons_append, wordN, List.length_cons]
    split at h
    · rename_i hc
      rw [if_pos hc]
      cases w with
      | nil => simp [wordN, hx]
      | cons d w => rw [wordN_app (d :: w) true (by omega) (by simp) hx]
    · cases h
theorem let_facts {c : UInt8} (h : isLet c = true) : isBl c = false ∧ c.toNat ≠ 35 := by
  simp only [isLet, Bool.and_eq_true, decide_eq_true_eq] at h
  refine ⟨?_, by omega⟩
  simp only [isBl, Bool.or_eq_false_iff, beq_eq_false_iff_ne]; omega
theorem cx_word {c : UInt8} {w : List UInt8} {x : UInt8} {r : List UInt8} (hl : isLet c = true) (hw : wordN false (c :: w) = (c :: w).length) (hx : wq true x = false) : Cx (c :: w ++ x :: r) [⟨1, c :: w, 0⟩] (x :: r) := by
  refine cx_tok (let_facts hl).1 (let_facts hl).2 ?_
  have h := wordN_app (c :: w) false (x := x) (r := r) hw (by simp) hx
  have h' : wordN false (c :: (w ++ x :: r)) = (c :: w).length := h
  show oneL (c :: (w ++ x :: r)) = _
  simp only [oneL, hl, if_true, h']
  congr 3
  rw [show c :: (w ++ x :: r) = c :: w ++ x :: r from rfl, List.take_left]
theorem runN_app {p : UInt8 → Bool} : ∀ {l : List UInt8} {x : UInt8} {r : List UInt8}, (∀ c ∈ l, p c = true) → p x = false → runN p (l ++ x :: r) = l.length
  | [], x, r, _, hx => by simp [runN, hx]
  | c :: l, x, r, h, hx => by
    simp only [List.cons_append, runN, h c (by simp), if_true, List.length_cons]
    rw [runN_app (fun c hc => h c (by simp [hc])) hx]
theorem cx_hex {n : Nat} {r : List UInt8} (hn : n ≤ 4294967295) : Cx (48 :: 120 :: digs 16 n ++ 32 :: r) [⟨2, 48 :: 120 :: digs 16 n, (n : Nat)⟩] (32 :: r) := by
  refine cx_tok (l := 120 :: digs 16 n) rfl (by decide) ?_
  have hN : nN (48 :: 120 :: (digs 16 n ++ 32 :: r)) = (digs 16 n).length + 2 := by
    unfold nN
    rw [show nB (48 :: 120 :: (digs 16 n ++ 32 :: r)) = 16 from rfl, show nF (48 :: 120 :: (digs 16 n ++ 32 :: r)) = 2 from rfl]
    show 2 + runN (inB 16) (digs 16 n ++ 32 :: r) = _
    rw [runN_app (digs16_all n) rfl]; omega
  have hD : nDs (48 :: 120 :: (digs 16 n ++ 32 :: r)) = digs 16 n := by
    unfold nDs
    rw [hN, show nF (48 :: 120 :: (digs 16 n ++ 32 :: r)) = 2 from rfl]
    show (48 :: 120 :: (digs 16 n ++ 32 :: r).take (digs 16 n).length).drop 2 = digs 16 n
    rw [List.take_left]; rfl
  have hv : numV (48 :: 120 :: (digs 16 n ++ 32 :: r)) = some n := by
    unfold numV
    rw [hD, show nB (48 :: 120 :: (digs 16 n ++ 32 :: r)) = 16 from rfl, puL_digs (by omega) n hn, hN]
    have : (48 :: 120 :: (digs 16 n ++ 32 :: r)).drop ((digs 16 n).length + 2) = 32 :: r := by
      show (digs 16 n ++ 32 :: r).drop (digs 16 n).length = _
      rw [List.drop_left]
    rw [this]
    simp [wordN, wq, isLet]
  show oneL (48 :: 120 :: (digs 16 n ++ 32 :: r)) = _
  have h1 : isLet 48 = false := rfl
  have h2 : isDig 48 = true := rfl
  have e1 : (48 :: 120 :: (digs 16 n ++ 32 :: r)).take ((digs 16 n).length + 2) = 48 :: 120 :: digs 16 n := by
    show 48 :: 120 :: (digs 16 n ++ 32 :: r).take (digs 16 n).length = _
    rw [List.take_left]
  simp only [oneL, h1, h2, if_true, Bool.false_eq_true, if_false, hv, Option.map_some, hN, e1]
  rfl
theorem cx_dec {n : Nat} {r : List UInt8} (hn : n ≤ 4294967295) : Cx (digs 10 n ++ 32 :: r) [⟨2, digs 10 n, (n : Nat)⟩] (32 :: r) := by
  have hall := digs10_all n
  have hh : hexH (digs 10 n ++ 32 :: r) = false := by
    obtain ⟨c, l, e⟩ := digs_cons 10 n
    rw [e] at hall ⊢
    cases l with
    | nil => simp [hexH]
    | cons d l =>
      have := (dig_facts (hall d (by simp))).2.2.2
      simp [hexH, this]
  have hB : nB (digs 10 n ++ 32 :: r) = 10 := by simp [nB, hh]
  have hF : nF (digs 10 n ++ 32 :: r) = 0 := by simp [nF, hh]
  have hN : nN (digs 10 n ++ 32 :: r) = (digs 10 n).length := by
    unfold nN
    rw [hB, hF, Nat.zero_add, List.drop_zero]
    exact runN_app (fun c hc => by simp [inB, hall c hc]) rfl
  have hD : nDs (digs 10 n ++ 32 :: r) = digs 10 n := by
    unfold nDs
    rw [hN, hF, List.drop_zero, List.take_left]
  have hv : numV (digs 10 n ++ 32 :: r) = some n := by
    unfold numV
    rw [hD, hB, puL_digs (by omega) n hn, hN, List.drop_left]
    simp [wordN, wq, isLet]
  obtain ⟨c, l, e⟩ := digs_cons 10 n
  rw [e] at hall hN hv ⊢
  have hd := hall c (by simp)
  obtain ⟨h1, h2, h3, -⟩ := dig_facts hd
  refine cx_tok h2 h3 ?_
  have hv : numV (c :: (l ++ 32 :: r)) = some n := hv
  have hN : nN (c :: (l ++ 32 :: r)) = (c :: l).length := hN
  show oneL (c :: (l ++ 32 :: r)) = _
  simp only [oneL, h1, hd, if_true, Bool.false_eq_true, if_false, hv, Option.map_some, hN]
  congr 3
  rw [show c :: (l ++ 32 :: r) = c :: l ++ 32 :: r from rfl, List.take_left]
theorem cx_quo {t r : List UInt8} (h : StrOk t) : Cx (qL t ++ r) [⟨3, t, 0⟩] r := by
  obtain ⟨e, he, hq⟩ := h
  have e1 : qL t = 34 :: (e ++ [34]) := by unfold qL; rw [he]
  rw [e1]
  refine cx_tok (l := e ++ [34]) rfl (by decide) ?_
  have h1 : isLet 34 = false := rfl
  have h2 : isDig 34 = false := rfl
  have h3 : (34 : UInt8).toNat = 34 := rfl
  show oneL (34 :: (e ++ [34] ++ r)) = _
  have hq' : qd (e ++ [34] ++ r) = some (e.length + 1, t) := by rw [List.append_assoc]; exact hq r
  simp only [oneL, h1, h2, h3, if_true, Bool.false_eq_true, if_false, hq', Option.map_some]
  simp
theorem cx_sign {r : List UInt8} : Cx (59 :: r) [⟨4, [59], 0⟩] r := by
  refine cx_tok (l := []) (r := r) rfl (by decide) ?_
  rfl

/-- A line's tokens. -/
def tokE (e : En) : List Tk := [⟨1, [105, 109, 97, 103, 101], 0⟩, ⟨3, e.nm.data.toList, 0⟩, ⟨1, [97, 116], 0⟩, ⟨2, 48 :: 120 :: digs 16 e.a.toNat, e.a⟩, ⟨1, [115, 105, 122, 101], 0⟩, ⟨2, digs 10 e.s.toNat, e.s⟩, ⟨1, [112, 114, 105, 110, 116], 0⟩, ⟨2, 48 :: 120 :: digs 16 e.p.toNat, e.p⟩, ⟨1, [98, 121], 0⟩, ⟨1, wayL e.w, 0⟩, ⟨4, [59], 0⟩]
theorem way_cons {w : Int} (h : w = 0 ∨ w = 1 ∨ w = 2 ∨ w = 3) : ∃ c l, wayL w = c :: l ∧ isLet c = true ∧ wordN false (c :: l) = (c :: l).length := by
  rcases h with rfl | rfl | rfl | rfl
  · exact ⟨99, [104, 101, 99, 107], rfl, rfl, rfl⟩
  · exact ⟨99, [114, 99], rfl, rfl, rfl⟩
  · exact ⟨108, [97, 114, 103, 101], rfl, rfl, rfl⟩
  · exact ⟨98, [97, 116, 99, 104], rfl, rfl, rfl⟩
theorem cx_line {e : En} (h : EnG e) (r : List UInt8) : Cx (lineL e ++ r) (tokE e) r := by
  obtain ⟨hn, ha, hs, hp, hw⟩ := h
  obtain ⟨A, hA⟩ := Int.eq_ofNat_of_zero_le ha.1
  obtain ⟨S, hS⟩ := Int.eq_ofNat_of_zero_le hs.1
  obtain ⟨P, hP⟩ := Int.eq_ofNat_of_zero_le hp.1
  obtain ⟨c, l, hc, hl, hwl⟩ := way_cons hw
  have hl1 : lineL e ++ r = 105 :: [109, 97, 103, 101] ++ 32 :: (qL e.nm.data.toList ++ 32 :: (97 :: [116] ++ 32 :: (48 :: 120 :: digs 16 A ++ 32 :: (115 :: [105, 122, 101] ++ 32 :: (digs 10 S ++ 32 :: (112 :: [114, 105, 110, 116] ++ 32 :: (48 :: 120 :: digs 16 P ++ 32 :: (98 :: [121] ++ 32 :: (c :: l ++ 59 :: 10 :: r))))))))) := by
    simp [lineL, hA, hS, hP, hc, numS_nat]
  rw [hl1]
  have ht : tokE e = [⟨1, [105, 109, 97, 103, 101], 0⟩] ++ ([] ++ ([⟨3, e.nm.data.toList, 0⟩] ++ ([] ++ ([⟨1, [97, 116], 0⟩] ++ ([] ++ ([⟨2, 48 :: 120 :: digs 16 A, (A : Nat)⟩] ++ ([] ++ ([⟨1, [115, 105, 122, 101], 0⟩] ++ ([] ++ ([⟨2, digs 10 S, (S : Nat)⟩] ++ ([] ++ ([⟨1, [112, 114, 105, 110, 116], 0⟩] ++ ([] ++ ([⟨2, 48 :: 120 :: digs 16 P, (P : Nat)⟩] ++ ([] ++ ([⟨1, [98, 121], 0⟩] ++ ([] ++ ([⟨1, c :: l, 0⟩] ++ ([⟨4, [59], 0⟩] ++ []))))))))))))))))))) := by
    simp [tokE, hA, hS, hP, hc]
  rw [ht]
  refine (cx_word rfl rfl rfl).trans ((cx_bl rfl).trans ((cx_quo hn).trans ((cx_bl rfl).trans ((cx_word rfl rfl rfl).trans ((cx_bl rfl).trans ((cx_hex (by omega)).trans ((cx_bl rfl).trans ((cx_word rfl rfl rfl).trans ((cx_bl rfl).trans ((cx_dec (by omega)).trans ((cx_bl rfl).trans ((cx_word rfl rfl rfl).trans ((cx_bl rfl).trans ((cx_hex (by omega)).trans ((cx_bl rfl).trans ((cx_word rfl rfl rfl).trans ((cx_bl rfl).trans ((cx_word hl hwl rfl).trans (cx_sign.trans (cx_bl rfl))))))))))))))))))))
theorem cx_text : ∀ (es : List En) (r : List UInt8), (∀ e ∈ es, EnG e) → Cx (es.flatMap lineL ++ r) (es.flatMap tokE) r
  | [], r, _ => Cx.refl r
  | e :: es, r, h => by
    rw [List.flatMap_cons, List.flatMap_cons, List.append_assoc]
    exact (cx_line (h e (by simp)) _).trans (cx_text es r fun x hx => h x (by simp [hx]))
theorem cut_text (es : List En) (h : ∀ e ∈ es, EnG e) : ∃ us, cutL 0 (es.flatMap lineL) = .inr us ∧ us.map (·.1) = es.flatMap tokE ++ [endT] := by
  obtain ⟨a', us, e, hc⟩ := cx_text es [] h 0
  rw [List.append_nil, cutL_nil] at hc
  exact ⟨us ++ [(endT, a')], hc, by simp [e]⟩
end Go.Proofs.YtgfkjldohilmkaaDoor.Ab
/- What the parser reads, and what it says is wrong (plain law; no program). -/
set_option linter.unusedVariables false
set_option linter.unusedSimpArgs false
namespace Go.Proofs.YtgfkjldohilmkaaDoor.Ab
open Go Go.RowKit
set_option maxRecDepth 100000

theorem tkF_map (us : List (Tk × Nat)) (k : Nat) : tkF us k = (us.map (·.1)).getD k endT := by
  unfold tkF
  simp only [List.getD, List.getElem?_map]
  cases us[k]? <;> rfl
theorem getD_app (done ts : List Tk) (i : Nat) (x : Tk) : (done ++ ts).getD (done.length + i) x = ts.getD i x := by
  simp [List.getD, List.getElem?_append_right]
theorem fits_tok {us : List (Tk × Nat)} {done rest : List Tk} {e : En} (h : EnG e) (hu : us.map (·.1) = done ++ (tokE e ++ rest)) : Fits11 us done.length e.w.toNat ∧ entT us done.length e.w.toNat = e ∧ (tkF us done.length).kd = 1 := by
  obtain ⟨hn, ha, hs, hp, hw⟩ := h
  have t : ∀ i, tkF us (done.length + i) = (tokE e ++ rest).getD i endT := fun i => by rw [tkF_map, hu, getD_app]
  have t0 : tkF us done.length = ⟨1, [105, 109, 97, 103, 101], 0⟩ := t 0
  have t1 : tkF us (done.length + 1) = ⟨3, e.nm.data.toList, 0⟩ := t 1
  have t2 : tkF us (done.length + 2) = ⟨1, [97, 116], 0⟩ := t 2
  have t3 : tkF us (done.length + 3) = ⟨2, 48 :: 120 :: digs 16 e.a.toNat, e.a⟩ := t 3
  have t4 : tkF us (done.length + 4) = ⟨1, [115, 105, 122, 101], 0⟩ := t 4
  have t5 : tkF us (done.length + 5) = ⟨2, digs 10 e.s.toNat, e.s⟩ := t 5
  have t6 : tkF us (done.length + 6) = ⟨1, [112, 114, 105, 110, 116], 0⟩ := t 6
  have t7 : tkF us (done.length + 7) = ⟨2, 48 :: 120 :: digs 16 e.p.toNat, e.p⟩ := t 7
  have t8 : tkF us (done.length + 8) = ⟨1, [98, 121], 0⟩ := t 8
  have t9 : tkF us (done.length + 9) = ⟨1, wayL e.w, 0⟩ := t 9
  have t10 : tkF us (done.length + 10) = ⟨4, [59], 0⟩ := t 10
  have wp : IntKind.u32.wrap e.p = e.p := by
    obtain ⟨P, hP⟩ := Int.eq_ofNat_of_zero_le hp.1
    simp [IntKind.wrap, IntKind.signed, IntKind.bits]
    omega
  have hway : wayOf (wayL e.w) = some e.w.toNat := by
    rcases hw with h | h | h | h <;> rw [h] <;> rfl
  refine ⟨?_, ?_, by rw [t0]⟩
  · unfold Fits11
    rw [t0, t1, t2, t3, t4, t5, t6, t7, t8, t9, t10]
    exact ⟨rfl, rfl, rfl, rfl, rfl, rfl, rfl, rfl, rfl, rfl, rfl, hway⟩
  · unfold entT
    rw [t1, t3, t5, t7, wp]
    have : ((e.w.toNat : Nat) : Int) = e.w := by omega
    rw [this]
theorem parse_back : ∀ (es : List En) (n : Nat) (us : List (Tk × Nat)) (done : List Tk) (out : List En), (∀ e ∈ es, EnG e) → us.map (·.1) = done ++ (es.flatMap tokE ++ [endT]) → es.length ≤ n → parseF n us ⟨done.length, none⟩ out = (out ++ es, none)
  | [], n, us, done, out, _, hu, _ => by
    have h0 : tkF us done.length = endT := by
      have := tkF_map us done.length
      rw [hu, show done.length = done.length + 0 from rfl, getD_app] at this
      exact this
    rw [parse_stop (fun h => h.2 (by show (tkF us done.length).kd = 0; rw [h0]; rfl)) n, List.append_nil]
  | e :: es, 0, us, done, out, _, _, hn => by simp at hn
  | e :: es, n + 1, us, done, out, hg, hu, hn => by
    have hu' : us.map (·.1) = done ++ (tokE e ++ (es.flatMap tokE ++ [endT])) := by rw [hu, List.flatMap_cons, List.append_assoc]
    obtain ⟨hf, he, hk⟩ := fits_tok (hg e (by simp)) hu'
    have hk' : (us.getD done.length tok0).1.kd ≠ 0 := by
      show (tkF us done.length).kd ≠ 0
      rw [hk]; decide
    have hl : (done ++ tokE e).length = done.length + 11 := by rw [List.length_append]; rfl
    have := parse_back es n us (done ++ tokE e) (out ++ [e]) (fun x hx => hg x (by simp [hx])) (by rw [hu', List.append_assoc]) (by simp at hn; omega)
    rw [hl] at this
    rw [parseF, if_pos ⟨rfl, hk'⟩, entryF_fit hf, he]
    show parseF n us ⟨done.length + 11, none⟩ (out ++ [e]) = _
    rw [this, List.append_assoc]
    rfl
theorem tokE_len (es : List En) : (es.flatMap tokE).length = es.length * 11 := by
  induction es with
  | nil => rfl
  | cons e es ih =>
    rw [List.flatMap_cons, List.length_append, ih, List.length_cons]
    show 11 + _ = _
    omega
theorem parseL_back {es : List En} {us : List (Tk × Nat)} (h : ∀ e ∈ es, EnG e) (hu : us.map (·.1) = es.flatMap tokE ++ [endT]) : parseL us = (es, none) := by
  have hl := congrArg List.length hu
  rw [List.length_map, List.length_append, tokE_len] at hl
  exact parse_back es us.length us [] [] h hu (by simp at hl; omega)

/-! What it reads is right. -/
theorem tkF_ok {N : Nat} {ts : List (Tk × Nat)} (h : ∀ p ∈ ts, TkOk N p.1) (k : Nat) : TkOk N (tkF ts k) := by
  unfold tkF List.getD
  cases hk : ts[k]? with
  | none => exact endT_ok N
  | some p => exact h p (List.mem_of_getElem? hk)
theorem misfit_kd {t : Tk} {kd : Int} {tx : List UInt8} (h : misfit t kd tx = false) : t.kd = kd := by
  rcases Classical.em (t.kd = kd) with e | e
  · exact e
  · rw [misfit, bneT e] at h; cases h
theorem entT_ok {N : Nat} {ts : List (Tk × Nat)} {k w : Nat} (h : ∀ p ∈ ts, TkOk N p.1) (hf : Fits11 ts k w) : EnG (entT ts k w) ∧ (entT ts k w).nm.size ≤ N := by
  obtain ⟨-, h1, -, h3, -, h5, -, h7, -, -, -, hw⟩ := hf
  have b1 := tkF_ok h (k + 1)
  have b3 := (tkF_ok h (k + 3)).1 (misfit_kd h3)
  have b5 := (tkF_ok h (k + 5)).1 (misfit_kd h5)
  have b7 := (tkF_ok h (k + 7)).1 (misfit_kd h7)
  refine ⟨⟨b1.2.1 (misfit_kd h1), b3, b5, ?_, ?_⟩, b1.2.2⟩
  · show 0 ≤ IntKind.u32.wrap (tkF ts (k + 7)).vl ∧ IntKind.u32.wrap (tkF ts (k + 7)).vl ≤ 4294967295
    simp [IntKind.wrap, IntKind.signed, IntKind.bits]
    omega
  · show (w : Int) = 0 ∨ (w : Int) = 1 ∨ (w : Int) = 2 ∨ (w : Int) = 3
    unfold wayOf at hw
    repeat' split at hw
    all_goals (cases hw <;> omega)
theorem good_out {N : Nat} : ∀ (n : Nat) (ts : List (Tk × Nat)) (s : PS) (out : List En), (∀ p ∈ ts, TkOk N p.1) → (∀ e ∈ out, EnG e ∧ e.nm.size ≤ N) → (parseF n ts s out).2 = none → ∀ e ∈ (parseF n ts s out).1, EnG e ∧ e.nm.size ≤ N
  | 0, ts, s, out, _, ho, _ => ho
  | n + 1, ts, s, out, ht, ho, h => by
    rw [parseF] at h ⊢
    split at h
    · rename_i hc
      rw [if_pos hc]
      cases hh : (entryF ts s).2.err with
      | some e =>
        rw [parse_stop (fun h => by rw [hh] at h; cases h.1) n, hh] at h
        cases h
      | none =>
        obtain ⟨w, hs, hf⟩ := entryF_none hh
        refine good_out n ts _ _ ht (fun e he => ?_) h
        rcases List.mem_append.1 he with he | he
        · exact ho e he
        · rw [hs, entryF_fit hf] at he
          simp at he
          subst he
          exact entT_ok ht hf
    · rename_i hc
      rw [if_neg hc]
      exact ho
theorem out_len : ∀ (n : Nat) (ts : List (Tk × Nat)) (s : PS) (out : List En), (parseF n ts s out).1.length ≤ out.length + n
  | 0, _, _, _ => Nat.le_refl _
  | n + 1, ts, s, out => by
    rw [parseF]
    split
    · have := out_len n ts (entryF ts s).2 (out ++ [(entryF ts s).1])
      simp at this
      omega
    · show out.length ≤ _; omega

/-! What is wrong. -/
def ErrG (N : Nat) (e : Option (Nat × Nat)) : Prop := ∀ x, e = some x → (x.1 = 2 ∨ x.1 = 3) ∧ x.2 ≤ N
theorem getD_at {N : Nat} {ts : List (Tk × Nat)} (h : ∀ p ∈ ts, p.2 ≤ N) (k : Nat) : (ts.getD k tok0).2 ≤ N := by
  unfold List.getD
  cases hk : ts[k]? with
  | none => exact Nat.zero_le _
  | some p => exact h p (List.mem_of_getElem? hk)
theorem takeF_err {N : Nat} {ts : List (Tk × Nat)} {kd : Int} {tx : List UInt8} {s : PS} (h : ∀ p ∈ ts, p.2 ≤ N) (he : ErrG N s.err) : ErrG N (takeF ts kd tx s).2.err ∧ (takeF ts kd tx s).1.2 ≤ N := by
  have hf : ErrG N (failF ts 2 s).err := by
    unfold failF
    split
    · exact he
    · intro x hx; cases hx; exact ⟨.inl rfl, getD_at h _⟩
  rw [takeF_eq]
  have key : ∀ s' : PS, ErrG N s'.err → ErrG N (takeR (ts.getD s.k tok0) s').2.err ∧ (takeR (ts.getD s.k tok0) s').1.2 ≤ N := fun s' h' => by
    unfold takeR
    split
    · exact ⟨h', Nat.zero_le _⟩
    · exact ⟨(fun x hx => by cases hx), getD_at h _⟩
  split
  · exact key _ hf
  · exact key _ he
theorem entryF_err {N : Nat} {ts : List (Tk × Nat)} {s : PS} (h : ∀ p ∈ ts, p.2 ≤ N) (he : ErrG N s.err) : ErrG N (entryF ts s).2.err := by
  have a0 := takeF_err (kd := 1) (tx := [105, 109, 97, 103, 101]) h he
  have a1 := takeF_err (kd := 3) (tx := []) h a0.1
  have a2 := takeF_err (kd := 1) (tx := [97, 116]) h a1.1
  have a3 := takeF_err (kd := 2) (tx := []) h a2.1
  have a4 := takeF_err (kd := 1) (tx := [115, 105, 122, 101]) h a3.1
  have a5 := takeF_err (kd := 2) (tx := []) h a4.1
  have a6 := takeF_err (kd := 1) (tx := [112, 114, 105, 110, 116]) h a5.1
  have a7 := takeF_err (kd := 2) (tx := []) h a6.1
  have a8 := takeF_err (kd := 1) (tx := [98, 121]) h a7.1
  have a9 := takeF_err (kd := 1) (tx := []) h a8.1
  unfold entryF
  simp only
  split
  · exact (takeF_err h a9.1).1
  · unfold nameF
    split
    · exact a9.1
    · intro x hx; cases hx; exact ⟨.inr rfl, a9.2⟩
theorem parseF_err {N : Nat} : ∀ (n : Nat) (ts : List (Tk × Nat)) (s : PS) (out : List En), (∀ p ∈ ts, p.2 ≤ N) → ErrG N s.err → ErrG N (parseF n ts s out).2
  | 0, _, _, _, _, h => h
  | n + 1, ts, s, out, hp, h => by
    rw [parseF]
    split
    · exact parseF_err n ts _ _ hp (entryF_err hp h)
    · exact h
end Go.Proofs.YtgfkjldohilmkaaDoor.Ab
/- What is read is read again: the law. -/
set_option linter.unusedVariables false
set_option linter.unusedSimpArgs false
namespace Go.Proofs.YtgfkjldohilmkaaDoor.Ab
open Go Go.RowKit
set_option maxHeartbeats 4000000
set_option maxRecDepth 100000

theorem eqE (nm : ByteArray) (a s p w : Int) : dEq (.recd [(0, 0, .str), (1, 0, .int), (2, 0, .int), (3, 0, .int), (4, 0, .int)]) (.agg ⟨[.string nm, .int .i64 a, .int .i64 s, .int .u32 p, .int .i64 w]⟩) (.agg ⟨[.string nm, .int .i64 a, .int .i64 s, .int .u32 p, .int .i64 w]⟩) = some true := by
  simp [dEq, dEqs, pickCells]
theorem c_SameE {w0 : World} {m : Mem} {v1 v2 : Value} {xs : List En} {Q : Value → Mem → Prop} (h1 : SlR m 5 v1 (xs.flatMap En.cells) xs.length) (h2 : SlR m 5 v2 (xs.flatMap En.cells) xs.length) (hn : xs.length ≤ 1000000) (hq : Q (.bool true) m) :
    AbC Tryd.prog w0 14 [v1, v2] m Q := by
  refine AbC_fn ok14 (by simp) ?_
  simp -implicitDefEqProofs (disch := first | assumption | (simp only [wnA]; done) | (simp only [wnA]; omega) | omega | fail) [rc14, ro14, wkA, retV, stabOk, dC, ev, fillD, pickCells, putAt, bnd, slD, List.getElem?_cons_zero, List.getElem?_cons_succ, dR.eq_20, Mem.cell, Mem.row, wmA, h1.slen, h2.slen, rc14_3]
  refine LoopW_of (fun k ts m' => ∃ j, j + k = xs.length ∧ m' = m ∧ ts 0 = v1 ∧ ts 1 = v2 ∧ ts 12 = .int .i64 (xs.length : Nat) ∧ ts 13 = .int .i64 (j : Nat)) xs.length ?_ ?_
  · exact ⟨0, by omega, rfl, by simp [frA_at], by simp [frA_at], by simp, by simp⟩
  · rintro k ts m2 K ⟨j, hj, rfl, t0, t1, t12, t13⟩ hK
    simp -implicitDefEqProofs (disch := first | assumption | (simp only [wnA]; done) | (simp only [wnA]; omega) | omega | fail) [rc14_1, wkA, retV, stabOk, dC, ev, fillD, pickCells, putAt, bnd, slD, List.getElem?_cons_zero, List.getElem?_cons_succ, dR.eq_20, Mem.cell, Mem.row, wmA, t12, t13]
    by_cases hjl : j < xs.length
    · have ijl : (j : Int) < (xs.length : Int) := by omega
      have w1 : IntKind.i64.wrap ((j : Int) + 1) = (j : Int) + 1 := w64 (by omega)
      obtain ⟨i1, o1, L1, hv1, hL1, hl1, ht1, hc1⟩ := h1.at hjl
      obtain ⟨i2, o2, L2, hv2, hL2, hl2, ht2, hc2⟩ := h2.at hjl
      rw [flat_at enl xs (List.getElem?_eq_getElem hjl)] at ht1 ht2
      have x1 : sidx 5 v1 (.int .i64 (j : Int)) = some (.pointer (some ⟨i1, o1 + j * 5, none⟩)) := by rw [hv1]; exact sidx_at hjl
      have x2 : sidx 5 v2 (.int .i64 (j : Int)) = some (.pointer (some ⟨i2, o2 + j * 5, none⟩)) := by rw [hv2]; exact sidx_at hjl
      have b1 : o1 + j * 5 + 5 ≤ L1.length := by omega
      have b2 : o2 + j * 5 + 5 ≤ L2.length := by omega
      clear hc1 hc2
      generalize o1 + j * 5 = q1 at *
      generalize o2 + j * 5 = q2 at *
      generalize xs[j] = e at *
      obtain ⟨nm, ea, es, ep, ew⟩ := e
      have ht1 : (L1.drop q1).take 5 = [.string nm, .int .i64 ea, .int .i64 es, .int .u32 ep, .int .i64 ew] := ht1
      have ht2 : (L2.drop q2).take 5 = [.string nm, .int .i64 ea, .int .i64 es, .int .u32 ep, .int .i64 ew] := ht2
      simp -implicitDefEqProofs (disch := first | assumption | (simp only [wnA]; done) | (simp only [wnA]; omega) | omega | fail) [wkA, retV, stabOk, dC, ev, fillD, pickCells, putAt, bnd, slD, List.getElem?_cons_zero, List.getElem?_cons_succ, dR.eq_20, Mem.cell, Mem.row, wmA, hjl, ijl, rc14_0, t0, t1, t13, x1, x2, hL1, hL2, ht1, ht2, b1, b2, w1, eqE]
      exact hK (k - 1) _ m2 (by omega) ⟨j + 1, by omega, rfl, by simp [t0], by simp [t1], by simp [t12], by simp⟩
    · have ijl : ¬ (j : Int) < (xs.length : Int) := by omega
      simp -implicitDefEqProofs (disch := first | assumption | (simp only [wnA]; done) | (simp only [wnA]; omega) | omega | fail) [wkA, retV, stabOk, dC, ev, fillD, pickCells, putAt, bnd, slD, List.getElem?_cons_zero, List.getElem?_cons_succ, dR.eq_20, Mem.cell, Mem.row, wmA, hjl, ijl, rc14_2]
      exact hq

theorem nm_sum : ∀ (es : List En) (N : Nat), (∀ e ∈ es, e.nm.size ≤ N) → totE es ≤ es.length * (2 * N + 130)
  | [], _, _ => by simp [totE]
  | e :: es, N, h => by
    have h1 := h e (by simp)
    have h2 := nm_sum es N fun x hx => h x (by simp [hx])
    have h3 : totE (e :: es) = 2 * e.nm.size + 130 + totE es := by simp [totE]
    rw [h3, List.length_cons, Nat.add_mul]
    omega
theorem EnG.ok {e : En} (h : EnG e) (hn : e.nm.size ≤ 1048576) : e.ok := by
  obtain ⟨-, h1, h2, h3, h4⟩ := h
  refine ⟨hn, ?_, ?_, h3, ?_⟩
  · omega
  · omega
  · omega

theorem l_Again {w0 : World} {m : Mem} {S : ByteArray} (hp : Part L0 m) (ht : Ten w0) (hE : ErrV w0) (hT : ErrT w0) :
    AbC Tryd.prog w0 7 [.string S] m fun v _ => v = .bool true := by
  refine AbC_fn ok7 (by simp) ?_
  have hl : S.data.toList.length = S.size := by simp
  simp -implicitDefEqProofs (disch := first | assumption | (simp only [wnA]; done) | (simp only [wnA]; omega) | omega | fail) [rc7, ro7, wkA, retV, stabOk, dC, ev, fillD, pickCells, putAt, bnd, slD, List.getElem?_cons_zero, List.getElem?_cons_succ, dR.eq_20, Mem.cell, Mem.row, wmA]
  refine c_awake hp ?_
  by_cases hs : 3000 < S.size
  · have is : (3000 : Int) < (S.size : Int) := by omega
    simp -implicitDefEqProofs (disch := first | assumption | (simp only [wnA]; done) | (simp only [wnA]; omega) | omega | fail) [rc7_2, wkA, retV, stabOk, dC, ev, fillD, pickCells, putAt, bnd, slD, List.getElem?_cons_zero, List.getElem?_cons_succ, dR.eq_20, Mem.cell, Mem.row, wmA, gtT is]
  · have is : (S.size : Int) ≤ 3000 := by omega
    simp -implicitDefEqProofs (disch := first | assumption | (simp only [wnA]; done) | (simp only [wnA]; omega) | omega | fail) [rc7_2, wkA, retV, stabOk, dC, ev, fillD, pickCells, putAt, bnd, slD, List.getElem?_cons_zero, List.getElem?_cons_succ, dR.eq_20, Mem.cell, Mem.row, wmA, gtF is, rc7_1]
    have bad : ∀ (no a : Nat), no = 1 ∨ no = 2 ∨ no = 3 → a ≤ S.size → True := fun _ _ _ _ => trivial
    refine c_Parse hp ht hE (fun h => by omega) (fun _ m1 a o1 hc => ?_) (fun _ m1 us e o1 hc hpe => ?_) fun _ m1 us ob o1 hc hul hpe s1 hob => ?_
    · have ha := (cut_places S.data.toList S.data.toList.length 0 (by omega) (by omega)).1 a hc
      rw [hl] at ha
      have hf : faultV 1 a = .iface 84 (.agg ⟨[.int .i64 ((1 : Nat) : Int), .int .i64 (a : Int)]⟩) := rfl
      simp -implicitDefEqProofs (disch := first | assumption | (simp only [wnA]; done) | (simp only [wnA]; omega) | omega | fail) [wkA, retV, stabOk, dC, ev, fillD, pickCells, putAt, bnd, slD, List.getElem?_cons_zero, List.getElem?_cons_succ, dR.eq_20, Mem.cell, Mem.row, wmA, hf]
      refine c_Number (n := 1) (a := a) hT fun m2 o2 => ?_
      simp -implicitDefEqProofs (disch := first | assumption | (simp only [wnA]; done) | (simp only [wnA]; omega) | omega | fail) [wkA, retV, stabOk, dC, ev, fillD, pickCells, putAt, bnd, slD, List.getElem?_cons_zero, List.getElem?_cons_succ, dR.eq_20, Mem.cell, Mem.row, wmA]
      refine c_Place (n := 1) (a := a) hT fun m3 o3 => ?_
      simp -implicitDefEqProofs (disch := first | assumption | (simp only [wnA]; done) | (simp only [wnA]; omega) | omega | fail) [wkA, retV, stabOk, dC, ev, fillD, pickCells, putAt, bnd, slD, List.getElem?_cons_zero, List.getElem?_cons_succ, dR.eq_20, Mem.cell, Mem.row, wmA]
      refine c_Place (n := 1) (a := a) hT fun m4 o4 => ?_
      simp -implicitDefEqProofs (disch := first | assumption | (simp only [wnA]; done) | (simp only [wnA]; omega) | omega | fail) [wkA, retV, stabOk, dC, ev, fillD, pickCells, putAt, bnd, slD, List.getElem?_cons_zero, List.getElem?_cons_succ, dR.eq_20, Mem.cell, Mem.row, wmA, ha]
    · have ha : e.2 ≤ S.size := by
        have hpl := ((cut_places S.data.toList S.data.toList.length 0 (by omega) (by omega)).2 us hc).1 (-1) (by omega)
        have := parseF_err us.length us ⟨0, none⟩ [] (N := S.size) (fun p hp => by rw [← hl]; exact PlL_at hpl p hp) (fun x hx => by cases hx)
        exact (this e hpe).2
      have hno : e.1 = 2 ∨ e.1 = 3 := by
        have hpl := ((cut_places S.data.toList S.data.toList.length 0 (by omega) (by omega)).2 us hc).1 (-1) (by omega)
        have := parseF_err us.length us ⟨0, none⟩ [] (N := S.size) (fun p hp => by rw [← hl]; exact PlL_at hpl p hp) (fun x hx => by cases hx)
        exact (this e hpe).1
      obtain ⟨no, a⟩ := e
      have ha : a ≤ S.size := ha
      have hno : no = 2 ∨ no = 3 := hno
      rcases hno with rfl | rfl
      · have hf : faultV 2 a = .iface 84 (.agg ⟨[.int .i64 ((2 : Nat) : Int), .int .i64 (a : Int)]⟩) := rfl
        simp -implicitDefEqProofs (disch := first | assumption | (simp only [wnA]; done) | (simp only [wnA]; omega) | omega | fail) [wkA, retV, stabOk, dC, ev, fillD, pickCells, putAt, bnd, slD, List.getElem?_cons_zero, List.getElem?_cons_succ, dR.eq_20, Mem.cell, Mem.row, wmA, hf]
        refine c_Number (n := 2) (a := a) hT fun m2 o2 => ?_
        simp -implicitDefEqProofs (disch := first | assumption | (simp only [wnA]; done) | (simp only [wnA]; omega) | omega | fail) [wkA, retV, stabOk, dC, ev, fillD, pickCells, putAt, bnd, slD, List.getElem?_cons_zero, List.getElem?_cons_succ, dR.eq_20, Mem.cell, Mem.row, wmA]
        refine c_Place (n := 2) (a := a) hT fun m3 o3 => ?_
        simp -implicitDefEqProofs (disch := first | assumption | (simp only [wnA]; done) | (simp only [wnA]; omega) | omega | fail) [wkA, retV, stabOk, dC, ev, fillD, pickCells, putAt, bnd, slD, List.getElem?_cons_zero, List.getElem?_cons_succ, dR.eq_20, Mem.cell, Mem.row, wmA]
        refine c_Place (n := 2) (a := a) hT fun m4 o4 => ?_
        simp -implicitDefEqProofs (disch := first | assumption | (simp only [wnA]; done) | (simp only [wnA]; omega) | omega | fail) [wkA, retV, stabOk, dC, ev, fillD, pickCells, putAt, bnd, slD, List.getElem?_cons_zero, List.getElem?_cons_succ, dR.eq_20, Mem.cell, Mem.row, wmA, ha]
      · have hf : faultV 3 a = .iface 84 (.agg ⟨[.int .i64 ((3 : Nat) : Int), .int .i64 (a : Int)]⟩) := rfl
        simp -implicitDefEqProofs (disch := first | assumption | (simp only [wnA]; done) | (simp only [wnA]; omega) | omega | fail) [wkA, retV, stabOk, dC, ev, fillD, pickCells, putAt, bnd, slD, List.getElem?_cons_zero, List.getElem?_cons_succ, dR.eq_20, Mem.cell, Mem.row, wmA, hf]
        refine c_Number (n := 3) (a := a) hT fun m2 o2 => ?_
        simp -implicitDefEqProofs (disch := first | assumption | (simp only [wnA]; done) | (simp only [wnA]; omega) | omega | fail) [wkA, retV, stabOk, dC, ev, fillD, pickCells, putAt, bnd, slD, List.getElem?_cons_zero, List.getElem?_cons_succ, dR.eq_20, Mem.cell, Mem.row, wmA]
        refine c_Place (n := 3) (a := a) hT fun m3 o3 => ?_
        simp -implicitDefEqProofs (disch := first | assumption | (simp only [wnA]; done) | (simp only [wnA]; omega) | omega | fail) [wkA, retV, stabOk, dC, ev, fillD, pickCells, putAt, bnd, slD, List.getElem?_cons_zero, List.getElem?_cons_succ, dR.eq_20, Mem.cell, Mem.row, wmA]
        refine c_Place (n := 3) (a := a) hT fun m4 o4 => ?_
        simp -implicitDefEqProofs (disch := first | assumption | (simp only [wnA]; done) | (simp only [wnA]; omega) | omega | fail) [wkA, retV, stabOk, dC, ev, fillD, pickCells, putAt, bnd, slD, List.getElem?_cons_zero, List.getElem?_cons_succ, dR.eq_20, Mem.cell, Mem.row, wmA, ha]
    · have hgood := good_out (N := S.size) us.length us ⟨0, none⟩ [] (cutF_ok S.size _ 0 _ us (by omega) hc) (fun e he => by cases he) hpe
      have hlen : (parseL us).1.length ≤ us.length := by
        have := out_len us.length us ⟨0, none⟩ []
        rw [List.length_nil, Nat.zero_add] at this
        exact this
      have hgood : ∀ e ∈ (parseL us).1, EnG e ∧ e.nm.size ≤ S.size := hgood
      have hes : (parseL us).1.length ≤ 3001 := by omega
      generalize (parseL us).1 = es at *
      have htot : totE es ≤ 1099511627776 := by
        have h1 := nm_sum es S.size fun e he => (hgood e he).2
        have h2 : es.length * (2 * S.size + 130) ≤ 3001 * (2 * 3000 + 130) := Nat.mul_le_mul hes (by omega)
        omega
      simp -implicitDefEqProofs (disch := first | assumption | (simp only [wnA]; done) | (simp only [wnA]; omega) | omega | fail) [wkA, retV, stabOk, dC, ev, fillD, pickCells, putAt, bnd, slD, List.getElem?_cons_zero, List.getElem?_cons_succ, dR.eq_20, Mem.cell, Mem.row, wmA, rc7_0]
      refine c_MText (o1.part hp) ht s1.read (fun b hb => ?_) (fun e he => (hgood e he).1.ok (by have := (hgood e he).2; omega)) htot (by omega) fun m2 o2 => ?_
      · rw [blk_slV] at hb
        subst hb
        exact s1.lt
      obtain ⟨us2, hc2, hu2⟩ := cut_text es fun e he => (hgood e he).1
      have hp2 := parseL_back (fun e he => (hgood e he).1) hu2
      obtain ⟨T, hT2⟩ : ∃ T : ByteArray, (⟨⟨es.flatMap lineL⟩⟩ : ByteArray) = T := ⟨_, rfl⟩
      have hT3 : T.data.toList = es.flatMap lineL := by subst hT2; rfl
      simp -implicitDefEqProofs (disch := first | assumption | (simp only [wnA]; done) | (simp only [wnA]; omega) | omega | fail) [wkA, retV, stabOk, dC, ev, fillD, pickCells, putAt, bnd, slD, List.getElem?_cons_zero, List.getElem?_cons_succ, dR.eq_20, Mem.cell, Mem.row, wmA, hT2]
      rw [← hT3] at hc2
      refine c_Parse ((o1.trans o2).part hp) ht hE (fun h m3 o3 => ?_) (fun _ m3 a o3 hc3 => by rw [hc2] at hc3; cases hc3) (fun _ m3 us3 e o3 hc3 hpe3 => by rw [hc2] at hc3; cases hc3; rw [hp2] at hpe3; cases hpe3) fun h m3 us3 ob3 o3 hc3 _ hpe3 s3 hob3 => ?_
      · have i4 : (4096 : Int) < (T.size : Int) := by omega
        simp -implicitDefEqProofs (disch := first | assumption | (simp only [wnA]; done) | (simp only [wnA]; omega) | omega | fail) [wkA, retV, stabOk, dC, ev, fillD, pickCells, putAt, bnd, slD, List.getElem?_cons_zero, List.getElem?_cons_succ, dR.eq_20, Mem.cell, Mem.row, wmA, gtT i4]
      · have i4 : (T.size : Int) ≤ 4096 := by omega
        rw [hc2] at hc3
        cases hc3
        rw [hp2] at s3
        simp only [hp2]
        simp -implicitDefEqProofs (disch := first | assumption | (simp only [wnA]; done) | (simp only [wnA]; omega) | omega | fail) [wkA, retV, stabOk, dC, ev, fillD, pickCells, putAt, bnd, slD, List.getElem?_cons_zero, List.getElem?_cons_succ, dR.eq_20, Mem.cell, Mem.row, wmA, gtF i4]
        have s13 : SlO m3 36 5 ob (es.flatMap En.cells) es.length := s1.keep (by have := o2.1; have := o3.1; omega) fun b hb => by
          subst hb
          rw [o3.2 _ (by have := s1.lt; have := o2.1; omega), o2.2 _ s1.lt]
        refine c_SameE (xs := es) s3.read s13.read (by omega) ?_
        simp -implicitDefEqProofs (disch := first | assumption | (simp only [wnA]; done) | (simp only [wnA]; omega) | omega | fail) [wkA, retV, stabOk, dC, ev, fillD, pickCells, putAt, bnd, slD, List.getElem?_cons_zero, List.getElem?_cons_succ, dR.eq_20, Mem.cell, Mem.row, wmA]
end Go.Proofs.YtgfkjldohilmkaaDoor.Ab

set_option linter.unusedVariables false
set_option linter.unusedSimpArgs false
namespace Go.Proofs.YtgfkjldohilmkaaDoor.Ab
open Go Go.RowKit
set_option maxRecDepth 100000

/-- Bytes that stand for themselves in quotes, and end nothing. -/
def plnC (c : UInt8) : Prop := 33 ≤ c.toNat ∧ c.toNat ≤ 126 ∧ c.toNat ≠ 34 ∧ c.toNat ≠ 92 ∧ c.toNat ≠ 59
theorem plnC_esc {c : UInt8} (h : plnC c) : escC c = some [c] := by
  obtain ⟨h1, h2, h3, h4, h5⟩ := h
  unfold escC
  rw [if_neg (by omega), if_neg (by omega), if_neg (by omega), if_neg (by omega)]
theorem pln_esc : ∀ {l : List UInt8}, (∀ c ∈ l, plnC c) → escL l = some l
  | [], _ => rfl
  | c :: l, h => by simp [escL, plnC_esc (h c (by simp)), pln_esc (l := l) fun x hx => h x (by simp [hx])]
theorem pln_str : ∀ {l : List UInt8}, (∀ c ∈ l, plnC c) → StrOk l
  | [], _ => strOk_nil
  | c :: l, h => strOk_cons (by rw [plnC_esc (h c (by simp))]; rfl) (pln_str fun x hx => h x (by simp [hx]))

/-- An entry that is right, with a plain name. -/
def EnP (e : En) : Prop := EnG e ∧ ∀ c ∈ e.nm.data.toList, plnC c
/-- A line without its end. -/
def bodyL (e : En) : List UInt8 := [105, 109, 97, 103, 101, 32] ++ qL e.nm.data.toList ++ [32, 97, 116, 32, 48, 120] ++ numS 16 e.a ++ [32, 115, 105, 122, 101, 32] ++ numS 10 e.s ++ [32, 112, 114, 105, 110, 116, 32, 48, 120] ++ digs 16 e.p.toNat ++ [32, 98, 121, 32] ++ wayL e.w
theorem line_body (e : En) : lineL e = bodyL e ++ [59, 10] := rfl
def inn (c : UInt8) : Prop := c.toNat ≠ 59 ∧ c.toNat ≠ 10
theorem inn_pln {c : UInt8} (h : plnC c) : inn c := ⟨h.2.2.2.2, by have := h.1; omega⟩
theorem inn_hex {c : UInt8} (h : inB 16 c = true) : inn c := by
  simp only [inB, isDig, isHx, Bool.or_eq_true, Bool.and_eq_true, decide_eq_true_eq, beq_self_eq_true, true_and] at h
  unfold inn; omega
theorem inn_dig {c : UInt8} (h : isDig c = true) : inn c := by
  simp only [isDig, Bool.and_eq_true, decide_eq_true_eq] at h
  unfold inn; omega
theorem inn_way {w : Int} : ∀ c ∈ wayL w, inn c := by
  unfold wayL inn
  split
  · decide
  · split
    · decide
    · split <;> decide
theorem body_inn {e : En} (h : EnP e) : ∀ c ∈ bodyL e, inn c := by
  obtain ⟨⟨hn, ha, hs, hp, hw⟩, hc⟩ := h
  obtain ⟨A, hA⟩ := Int.eq_ofNat_of_zero_le ha.1
  obtain ⟨S, hS⟩ := Int.eq_ofNat_of_zero_le hs.1
  have hq : ∀ c ∈ qL e.nm.data.toList, inn c := by
    unfold qL
    rw [pln_esc hc]
    intro c h
    simp only [List.mem_cons, List.mem_append, List.not_mem_nil, or_false] at h
    rcases h with rfl | h | rfl
    · exact ⟨by decide, by decide⟩
    · exact inn_pln (hc c h)
    · exact ⟨by decide, by decide⟩
  intro c h
  unfold bodyL at h
  rw [hA, hS, numS_nat, numS_nat] at h
  simp only [List.mem_append] at h
  rcases h with ((((((((h | h) | h) | h) | h) | h) | h) | h) | h) | h
  · revert c; unfold inn; decide
  · exact hq c h
  · revert c; unfold inn; decide
  · exact inn_hex (digs16_all A c h)
  · revert c; unfold inn; decide
  · exact inn_dig (digs10_all S c h)
  · revert c; unfold inn; decide
  · exact inn_hex (digs16_all _ c h)
  · revert c; unfold inn; decide
  · exact inn_way c h

/-! Tokens of a text without a sign. -/
def NoS (t : Tk) : Prop := ¬ (t.kd = 4 ∧ t.tx = [59])
theorem noS_end : NoS endT := fun h => absurd h.1 (by decide)
theorem oneL_noS {l : List UInt8} {t : Tk} {n : Nat} (h : oneL l = some (t, n)) (hl : ∀ c ∈ l, inn c) : NoS t := by
  rintro ⟨h4, hx⟩
  obtain ⟨-, h3⟩ := oneL_text h
  obtain ⟨h5, h6⟩ := h3 (by rw [h4]; decide)
  rw [hx] at h5 h6
  have : (59 : UInt8) ∈ l := List.mem_of_mem_take (by rw [h6]; simp)
  exact (hl _ this).1 rfl
theorem cutF_noS : ∀ (k a : Nat) (l : List UInt8) (us : List (Tk × Nat)), (∀ c ∈ l, inn c) → cutF k a l = .inr us → ∀ p ∈ us, NoS p.1
  | 0, a, l, us, hl, h => by cases h; intro p hp; simp at hp; subst hp; exact noS_end
  | k + 1, a, [], us, hl, h => by cases h; intro p hp; simp at hp; subst hp; exact noS_end
  | k + 1, a, c :: r, us, hl, h => by
    simp only [cutF] at h
    split at h
    · exact cutF_noS k _ r us (fun x hx => hl x (by simp [hx])) h
    · split at h
      · exact cutF_noS k _ _ us (fun x hx => hl x (List.mem_of_mem_drop hx)) h
      · split at h
        · cases h
        · rename_i t n ho
          obtain ⟨vs, hv, rfl⟩ := preC_inr h
          intro p hp
          rcases List.mem_append.1 hp with hp | hp
          · simp at hp; subst hp
            exact oneL_noS ho hl
          · exact cutF_noS k _ _ vs (fun x hx => hl x (List.mem_of_mem_drop hx)) hv p hp

/-! The parser over entries, and more behind. -/
theorem parse_to : ∀ (es : List En) (n : Nat) (us : List (Tk × Nat)) (done rest : List Tk) (out : List En), (∀ e ∈ es, EnG e) → us.map (·.1) = done ++ (es.flatMap tokE ++ rest) → parseF (n + es.length) us ⟨done.length, none⟩ out = parseF n us ⟨(done ++ es.flatMap tokE).length, none⟩ (out ++ es)
  | [], n, us, done, rest, out, _, hu => by simp
  | e :: es, n, us, done, rest, out, hg, hu => by
    have hu' : us.map (·.1) = done ++ (tokE e ++ (es.flatMap tokE ++ rest)) := by rw [hu, List.flatMap_cons, List.append_assoc]
    obtain ⟨hf, he, hk⟩ := fits_tok (hg e (by simp)) hu'
    have hk' : (us.getD done.length tok0).1.kd ≠ 0 := by
      show (tkF us done.length).kd ≠ 0
      rw [hk]; decide
    have hl : (done ++ tokE e).length = done.length + 11 := by rw [List.length_append]; rfl
    have := parse_to es n us (done ++ tokE e) rest (out ++ [e]) (fun x hx => hg x (by simp [hx])) (by rw [hu', List.append_assoc])
    rw [hl] at this
    rw [List.length_cons, ← Nat.add_assoc, parseF, if_pos ⟨rfl, hk'⟩, entryF_fit hf, he]
    show parseF (n + es.length) us ⟨done.length + 11, none⟩ (out ++ [e]) = _
    rw [this, List.append_assoc, List.flatMap_cons, List.append_assoc]
    rfl
/-- Behind whole entries stands something without a sign. -/
theorem parse_bad {es : List En} {us : List (Tk × Nat)} {t : Tk} {rest : List Tk} (h : ∀ e ∈ es, EnG e) (hu : us.map (·.1) = es.flatMap tokE ++ t :: rest) (hk : t.kd ≠ 0) (hn : ∀ x ∈ t :: rest, NoS x) : (parseL us).2 ≠ none := by
  have hl := congrArg List.length hu
  rw [List.length_map, List.length_append, tokE_len, List.length_cons] at hl
  obtain ⟨n, hn1⟩ : ∃ n, us.length = n + 1 + es.length := ⟨us.length - 1 - es.length, by omega⟩
  have hpt := parse_to es (n + 1) us [] (t :: rest) [] h hu
  rw [List.nil_append, List.nil_append] at hpt
  have hpl : parseL us = parseF (n + 1) us ⟨(es.flatMap tokE).length, none⟩ es := by unfold parseL; rw [hn1]; exact hpt
  rw [hpl]
  generalize hD : es.flatMap tokE = D at *
  have g : ∀ i, tkF us (D.length + i) = (t :: rest).getD i endT := fun i => by rw [tkF_map, hu, getD_app]
  have g0 : tkF us D.length = t := g 0
  have hk' : (us.getD D.length tok0).1.kd ≠ 0 := by
    show (tkF us D.length).kd ≠ 0
    rw [g0]; exact hk
  rw [parseF, if_pos ⟨rfl, hk'⟩]
  cases he : (entryF us ⟨D.length, none⟩).2.err with
  | some x =>
    rw [parse_stop (fun h => by rw [he] at h; cases h.1) n, he]
    exact fun h => by cases h
  | none =>
    exfalso
    obtain ⟨w, -, hf⟩ := entryF_none he
    have h10 : misfit (tkF us (D.length + 10)) 4 [59] = false := hf.2.2.2.2.2.2.2.2.2.2.1
    have hkd := misfit_kd h10
    have htx : (tkF us (D.length + 10)).tx = [59] := by
      unfold misfit at h10
      simpa [hkd] using h10
    rw [g 10] at hkd htx
    cases hg : (t :: rest)[10]? with
    | none =>
      rw [List.getD, hg] at hkd
      exact absurd hkd (by decide)
    | some x =>
      rw [List.getD, hg] at hkd htx
      exact hn x (List.mem_of_getElem? hg) ⟨hkd, htx⟩

/-! A text of lines, cut. -/
theorem take_lines : ∀ (es : List En) (k : Nat), k ≤ (es.flatMap lineL).length → ∃ j x, (es.flatMap lineL).take k = (es.take j).flatMap lineL ++ x ∧ (x = [] ∨ ∃ e i, es[j]? = some e ∧ x = (lineL e).take i ∧ 0 < i ∧ i < (lineL e).length)
  | [], k, _ => ⟨0, [], by simp, .inl rfl⟩
  | e :: es, k, hk => by
    rcases Nat.lt_or_ge k (lineL e).length with h | h
    · rcases Nat.eq_zero_or_pos k with rfl | hp
      · exact ⟨0, [], by simp, .inl rfl⟩
      · refine ⟨0, (lineL e).take k, ?_, .inr ⟨e, k, rfl, rfl, hp, h⟩⟩
        rw [List.flatMap_cons, List.take_append_of_le_length (by omega)]; simp
    · obtain ⟨j, x, h1, h2⟩ := take_lines es (k - (lineL e).length) (by simp [List.flatMap_cons] at hk ⊢; omega)
      refine ⟨j + 1, x, ?_, h2⟩
      rw [List.flatMap_cons, List.take_append, List.take_of_length_le h, h1, List.take_succ_cons, List.flatMap_cons, List.append_assoc]
/-- Where a text may be cut. -/
def wholeL (l : List UInt8) : Bool := match l.getLast? with
  | none => true
  | some c => c.toNat == 59 || c.toNat == 10
theorem wholeL_app {l x : List UInt8} (hx : x ≠ []) : wholeL (l ++ x) = wholeL x := by
  unfold wholeL
  rw [List.getLast?_append]
  cases h : x.getLast? with
  | none => exact absurd (List.getLast?_eq_none_iff.1 h) hx
  | some c => rfl
theorem whole_lines (es : List En) : wholeL (es.flatMap lineL) = true := by
  rcases List.eq_nil_or_concat es with rfl | ⟨l, e, rfl⟩
  · rfl
  · rw [List.concat_eq_append, List.flatMap_append]
    have : [e].flatMap lineL = bodyL e ++ [59, 10] := by simp [line_body]
    rw [this, ← List.append_assoc, wholeL_app (by simp)]
    rfl
theorem cut_prefix {es : List En} (h : ∀ e ∈ es, EnP e) (k : Nat) (hk : k ≤ (es.flatMap lineL).length) :
    (wholeL ((es.flatMap lineL).take k) = true ∧ ∃ us, cutL 0 ((es.flatMap lineL).take k) = .inr us ∧ (parseL us).2 = none) ∨
    (wholeL ((es.flatMap lineL).take k) = false ∧ ∀ us, cutL 0 ((es.flatMap lineL).take k) = .inr us → (parseL us).2 ≠ none) := by
  obtain ⟨j, x, hx, hc⟩ := take_lines es k hk
  rw [hx]
  have hg : ∀ e ∈ es.take j, EnG e := fun e he => (h e (List.mem_of_mem_take he)).1
  rcases hc with rfl | ⟨e, i, he, rfl, hi, hil⟩
  · left
    rw [List.append_nil]
    obtain ⟨us, h1, h2⟩ := cut_text (es.take j) hg
    exact ⟨whole_lines _, us, h1, by rw [parseL_back hg h2]⟩
  · have hep := h e (List.mem_of_getElem? he)
    have hne : (lineL e).take i ≠ [] := by
      intro h0
      rcases List.take_eq_nil_iff.1 h0 with h | h
      · omega
      · rw [h] at hil; simp at hil
    have hll : (lineL e).length = (bodyL e).length + 2 := by rw [line_body, List.length_append]; rfl
    rw [wholeL_app hne]
    rcases Nat.lt_or_ge (bodyL e).length i with hib | hib
    · left
      have hi1 : i = (bodyL e).length + 1 := by omega
      have e1 : (lineL e).take i = bodyL e ++ [59] := by
        rw [hi1, line_body, List.take_length_add_append]; rfl
      rw [e1]
      refine ⟨by rw [wholeL_app (by simp)]; rfl, ?_⟩
      have hg' : ∀ x ∈ es.take j ++ [e], EnG x := fun x hx => by
        rcases List.mem_append.1 hx with hx | hx
        · exact hg x hx
        · simp at hx; subst hx; exact hep.1
      obtain ⟨us, h1, h2⟩ := cut_text (es.take j ++ [e]) hg'
      have e2 : (es.take j ++ [e]).flatMap lineL = ((es.take j).flatMap lineL ++ (bodyL e ++ [59])) ++ 10 :: [] := by
        rw [List.flatMap_append]
        simp [line_body]
      rw [e2] at h1
      obtain ⟨c1, c2⟩ := cut_lf [] ((es.take j).flatMap lineL ++ (bodyL e ++ [59])).length 0 ((es.take j).flatMap lineL ++ (bodyL e ++ [59])) (Nat.le_refl _)
      cases hc : cutL 0 ((es.take j).flatMap lineL ++ (bodyL e ++ [59])) with
      | inl x => rw [c1 x hc] at h1; cases h1
      | inr vs =>
        obtain ⟨i', e3, e4⟩ := c2 vs hc
        rw [h1, cutL_nil] at e4
        cases e4
        refine ⟨vs, rfl, ?_⟩
        have : vs.map (·.1) = (es.take j ++ [e]).flatMap tokE ++ [endT] := by
          rw [← h2, e3]
          simp
        rw [parseL_back hg' this]
    · right
      have e1 : (lineL e).take i = (bodyL e).take i := by rw [line_body, List.take_append_of_le_length hib]
      rw [e1] at hne ⊢
      have hin : ∀ c ∈ (bodyL e).take i, inn c := fun c hc => body_inn hep c (List.mem_of_mem_take hc)
      constructor
      · unfold wholeL
        cases hl : ((bodyL e).take i).getLast? with
        | none => exact absurd (List.getLast?_eq_none_iff.1 hl) hne
        | some c =>
          obtain ⟨h1, h2⟩ := hin c (List.mem_of_getLast? hl)
          simp [h1, h2]
      · intro us hu
        obtain ⟨a', us1, m1, hc1⟩ := cx_text (es.take j) ((bodyL e).take i) hg 0
        rw [hc1] at hu
        obtain ⟨vs, hv, rfl⟩ := preC_inr hu
        have hx0 : ∃ r, (bodyL e).take i = 105 :: r := by
          obtain ⟨i, rfl⟩ : ∃ i', i = i' + 1 := ⟨i - 1, by omega⟩
          exact ⟨_, rfl⟩
        obtain ⟨r, hr⟩ := hx0
        have hns := cutF_noS _ a' _ vs hin hv
        rw [hr] at hv
        cases ho : oneL (105 :: r) with
        | none => rw [cutL_none rfl (by decide) ho] at hv; cases hv
        | some q =>
          obtain ⟨t, n⟩ := q
          rw [cutL_some rfl (by decide) ho] at hv
          obtain ⟨ws, -, rfl⟩ := preC_inr hv
          refine parse_bad (t := t) (rest := ws.map (·.1)) hg (by simp [m1]) (oneL_text ho).1 fun x hx => ?_
          rcases List.mem_cons.1 hx with rfl | hx
          · exact hns (x, a') (by simp)
          · obtain ⟨p, hp, rfl⟩ := List.mem_map.1 hx
            exact hns p (by simp [hp])
end Go.Proofs.YtgfkjldohilmkaaDoor.Ab

set_option linter.unusedVariables false
set_option linter.unusedSimpArgs false
namespace Go.Proofs.YtgfkjldohilmkaaDoor.Ab
open Go Go.RowKit

section
variable {m : Mem}
theorem arg_u8 (d : TD) (c : List Value) (hf : Fits (.int .u8) d) (h : AbsT m d c) : ∃ a : UInt8, c = [byteV a] ∧ True := by
  obtain ⟨n, rfl, rfl, hw⟩ := absT_int h hf
  have hw' : 0 ≤ n ∧ n ≤ 255 := by simpa [Lit.wf, IntKind.min, IntKind.max, IntKind.signed, IntKind.bits] using hw
  refine ⟨UInt8.ofNat n.toNat, ?_, trivial⟩
  have : (UInt8.ofNat n.toNat).toNat = n.toNat := by
    rw [UInt8.toNat_ofNat']; omega
  simp only [byteV, this]
  congr 2; omega
theorem flat_one {α : Type} (f : α → Value) : ∀ l : List α, l.flatMap (fun b => [f b]) = l.map f
  | [] => rfl
  | x :: l => by simp [flat_one f l]
theorem absT_bys {td : TD} {v : Value} (h : AbsT m td [v]) (hs : Fits (.sl (.int .u8)) td) :
    ∃ bs : List UInt8, SlR m 1 v (bs.map byteV) bs.length ∧ (∀ b, blk v = some b → b < m.next) ∧ bs.length + 1 ≤ td.bulk := by
  obtain ⟨l, xs, rfl, h1, h2, h3⟩ := absT_slice (f := fun b : UInt8 => [byteV b]) (z := 1) (R := fun _ _ => True) (fun _ => rfl) arg_u8 h hs
  rw [flat_one byteV] at h1
  refine ⟨xs, h1, h3, ?_⟩
  have := TD.bulks_len l
  rw [h2.length]
  simp [TD.bulk]; omega
theorem sl_max {G : Loc} {v v' : Value} {sz n : Nat} {cs : List Value} (h : SlR m sz v cs n) (hu : VR G v v') : n ≤ maxLen := by
  rcases h.2 with ⟨rfl, _⟩ | ⟨i, o, L, rfl, _⟩
  · exact Nat.zero_le _
  · cases hu with
    | sl _ _ _ _ _ _ c _ _ hn hc => omega
theorem wf_u16 {n : Int} (h : (Lit.int .u16 n).wf = true) : 0 ≤ n ∧ n ≤ 65535 := by
  have : 0 ≤ n ∧ n ≤ 65535 := by simpa [Lit.wf, IntKind.min, IntKind.max, IntKind.signed, IntKind.bits] using h
  exact this
theorem wf_u32 {n : Int} (h : (Lit.int .u32 n).wf = true) : 0 ≤ n ∧ n ≤ 4294967295 := by
  have : 0 ≤ n ∧ n ≤ 4294967295 := by simpa [Lit.wf, IntKind.min, IntKind.max, IntKind.signed, IntKind.bits] using h
  exact this
theorem wf_u8 {n : Int} (h : (Lit.int .u8 n).wf = true) : 0 ≤ n ∧ n ≤ 255 := by
  have : 0 ≤ n ∧ n ≤ 255 := by simpa [Lit.wf, IntKind.min, IntKind.max, IntKind.signed, IntKind.bits] using h
  exact this
theorem wf_i64 {n : Int} (h : (Lit.int .i64 n).wf = true) : -9223372036854775808 ≤ n ∧ n ≤ 9223372036854775807 := by
  have : -9223372036854775808 ≤ n ∧ n ≤ 9223372036854775807 := by simpa [Lit.wf, IntKind.min, IntKind.max, IntKind.signed, IntKind.bits] using h
  exact this
end
end Go.Proofs.YtgfkjldohilmkaaDoor.Ab

set_option linter.unusedVariables false
set_option linter.unusedSimpArgs false
namespace Go.Proofs.YtgfkjldohilmkaaDoor.Ab
open Go Go.RowKit
set_option maxHeartbeats 4000000
set_option maxRecDepth 100000

/-! Names by numbers. -/
def nameCs : List UInt8 := [97, 98, 99, 88, 89, 90, 48, 49, 46, 45, 95]
def nch (b : UInt8) : UInt8 := nameCs.getD (b.toNat % 11) 0
def nameL (ns : List UInt8) : List UInt8 := 102 :: (ns.take 8).map nch
theorem ch_sub : ∀ k : Fin 11, (ByteArray.mk #[97, 98, 99, 88, 89, 90, 48, 49, 46, 45, 95]).extract k.val (k.val + 1) = ⟨⟨[nameCs.getD k.val 0]⟩⟩ := by decide +kernel

theorem ba_app (a b : List UInt8) : (ByteArray.mk ⟨a⟩) ++ (ByteArray.mk ⟨b⟩) = ⟨⟨a ++ b⟩⟩ := by
  apply ByteArray.ext
  simp

theorem c_nums {w0 : World} {m : Mem} {v : Value} {ns : List UInt8} {Q : Value → Mem → Prop} (hv : SlR m 1 v (ns.map byteV) ns.length) (hl : ns.length ≤ 9223372036854775807) (hq : Q (.string ⟨⟨nameL ns⟩⟩) m) :
    AbC Tryd.prog w0 34 [v] m Q := by
  refine AbC_fn ok34 (by simp) ?_
  simp -implicitDefEqProofs (disch := first | assumption | (simp only [wnA]; done) | (simp only [wnA]; omega) | omega | fail) [rc34, ro34, wkA, retV, stabOk, dC, ev, fillD, pickCells, putAt, bnd, slD, List.getElem?_cons_zero, List.getElem?_cons_succ, dR.eq_20, Mem.cell, Mem.row, wmA, hv.slen]
  refine LoopW_of (fun k ts m' => ∃ j, j + k = ns.length ∧ m' = m ∧ ts 3 = .string ⟨⟨nameL (ns.take j)⟩⟩ ∧ ts 6 = v ∧ ts 7 = .int .i64 (ns.length : Nat) ∧ ts 8 = .int .i64 (j : Nat)) ns.length ?_ ?_
  · exact ⟨0, by omega, rfl, by simp [nameL], by simp [frA_at], by simp, by simp⟩
  · rintro k ts m1 K ⟨j, hj, rfl, t3, t6, t7, t8⟩ hK
    simp -implicitDefEqProofs (disch := first | assumption | (simp only [wnA]; done) | (simp only [wnA]; omega) | omega | fail) [rc34_1, wkA, retV, stabOk, dC, ev, fillD, pickCells, putAt, bnd, slD, List.getElem?_cons_zero, List.getElem?_cons_succ, dR.eq_20, Mem.cell, Mem.row, wmA, t7, t8]
    by_cases hjl : j < ns.length
    · obtain ⟨bi, bo, L, hvv, hL, hLl, -, hLc⟩ := hv.at hjl
      have hc := hLc 0 (by omega)
      simp only [Nat.mul_one, Nat.add_zero, List.getElem?_map, List.getElem?_eq_getElem hjl, Option.map_some] at hc
      obtain ⟨x, hx⟩ : ∃ x, ns[j] = x := ⟨_, rfl⟩
      rw [hx] at hc
      rw [hvv] at t6
      obtain ⟨hlt', hc'⟩ := List.getElem?_eq_some_iff.1 hc
      have hjw : IntKind.i64.wrap ((j : Int) + 1) = ((j + 1 : Nat) : Int) := by rw [w64 (by omega)]; omega
      have htk : ns.take (j + 1) = ns.take j ++ [x] := by rw [List.take_succ_eq_append_getElem hjl, hx]
      by_cases h8 : j < 8
      · have h8' : (j : Int) < 8 := by omega
        have hm : ((x.toNat : Int)).tmod 11 = ((x.toNat % 11 : Nat) : Int) := by rw [Int.tmod_eq_emod_of_nonneg (by omega)]; omega
        have hm11 : x.toNat % 11 < 11 := Nat.mod_lt _ (by omega)
        have hw1 : IntKind.u8.wrap (((x.toNat % 11 : Nat) : Int) + 1) = ((x.toNat % 11 + 1 : Nat) : Int) := by rw [IntKind.wrap_u8]; omega
        have hsub := ch_sub ⟨x.toNat % 11, hm11⟩
        simp only at hsub
        have hnc : nch x = nameCs.getD (x.toNat % 11) 0 := rfl
        have hr : dBin .rem (.int .u8 (x.toNat : Int)) (.int .u8 11) = some (.int .u8 ((x.toNat % 11 : Nat) : Int)) := by rw [dBin_rem (by omega), hm]
        have hnx : nameL (ns.take (j + 1)) = nameL (ns.take j) ++ [nch x] := by
          unfold nameL
          rw [List.take_take, List.take_take, show min 8 (j + 1) = j + 1 from by omega, show min 8 j = j from by omega, htk]
          simp
        rw [hnc] at hnx
        have hlen : (nameL (ns.take j)).length + 1 ≤ 100 := by unfold nameL; simp; omega
        generalize nameL (ns.take j) = S at *
        generalize hMM : x.toNat % 11 = M at *
        have hm0 : (0 : Int) ≤ (M : Int) ∧ (M : Int) ≤ ((M + 1 : Nat) : Int) ∧ ((M + 1 : Nat) : Int) ≤ 11 := by omega
        have hsz : (ByteArray.mk #[97, 98, 99, 88, 89, 90, 48, 49, 46, 45, 95]).size = 11 := rfl
        have p1 : (0 : Int) ≤ (M : Int) + 1 ∧ (M : Int) + 1 ≤ 11 := by omega
        have p3 : (M : Int) ≤ (M : Int) + 1 := by omega
        have p2 : dBin .add (.string ⟨⟨S⟩⟩) (.string ⟨⟨[nameCs.getD M 0]⟩⟩) = some (.string ⟨⟨S ++ [nameCs.getD M 0]⟩⟩) := by
          rw [dBin_sadd (by show S.length + 1 ≤ _; omega), ba_app]
        generalize nameCs.getD M 0 = c at *
        simp -implicitDefEqProofs (disch := first | assumption | (simp only [wnA]; done) | (simp only [wnA]; omega) | omega | fail) [hjl, rc34_0, wkA, retV, stabOk, dC, ev, fillD, pickCells, putAt, bnd, slD, List.getElem?_cons_zero, List.getElem?_cons_succ, dR.eq_20, Mem.cell, Mem.row, wmA, t3, t6, t7, t8, sidx_at, hL, hc, hc', byteV, h8', hr, hw1, hsz, p1, hsub, p2, p3, hjw]
        exact hK (k - 1) _ _ (by omega) ⟨j + 1, by omega, rfl, by rw [hnx]; simp, by simp [t6, hvv], by simp [t7], by simp [hjw]⟩
      · have h8' : ¬ (j : Int) < 8 := by omega
        have hnx : nameL (ns.take (j + 1)) = nameL (ns.take j) := by
          unfold nameL
          rw [List.take_take, List.take_take, show min 8 (j + 1) = 8 from by omega, show min 8 j = 8 from by omega]
        simp -implicitDefEqProofs (disch := first | assumption | (simp only [wnA]; done) | (simp only [wnA]; omega) | omega | fail) [hjl, rc34_0, wkA, retV, stabOk, dC, ev, fillD, pickCells, putAt, bnd, slD, List.getElem?_cons_zero, List.getElem?_cons_succ, dR.eq_20, Mem.cell, Mem.row, wmA, t3, t6, t7, t8, sidx_at, hL, hc, hc', byteV, h8']
        exact hK (k - 1) _ _ (by omega) ⟨j + 1, by omega, rfl, by rw [hnx]; simp [t3], by simp [t6, hvv], by simp [t7], by simp [hjw]⟩
    · have hjj : j = ns.length := by omega
      subst hjj
      rw [List.take_length] at t3
      simp -implicitDefEqProofs (disch := first | assumption | (simp only [wnA]; done) | (simp only [wnA]; omega) | omega | fail) [hjl, rc34_2, wkA, retV, stabOk, dC, ev, fillD, pickCells, putAt, bnd, slD, List.getElem?_cons_zero, List.getElem?_cons_succ, dR.eq_20, Mem.cell, Mem.row, wmA, t3]
      exact hq

/-! An act. -/
structure Ac where
  ns : List UInt8
  v : Value
  a : Int
  s : Int
  p : Int
  w : Int
instance : Inhabited Ac := ⟨⟨[], .slice none 0 0, 0, 0, 0, 0⟩⟩
def Ac.cells (x : Ac) : List Value := [x.v, .int .u16 x.a, .int .u16 x.s, .int .u32 x.p, .int .u8 x.w]
def Ac.rng (x : Ac) : Prop := (0 ≤ x.a ∧ x.a ≤ 65535) ∧ (0 ≤ x.s ∧ x.s ≤ 65535) ∧ (0 ≤ x.p ∧ x.p ≤ 4294967295) ∧ (0 ≤ x.w ∧ x.w ≤ 255)
def lastB (k : Nat) : UInt8 := UInt8.ofNat (97 + k)
def entA (x : Ac) (k : Nat) : En := ⟨⟨⟨nameL x.ns ++ [lastB k]⟩⟩, if x.a % 8 = 7 then x.a else (k : Int) * 2048, 1 + x.s % 600, x.p, x.w % 4⟩
theorem enc_last : ∀ k : Fin 8, Utf8.encode ((97 : Int) + (k.val : Int)) = ⟨⟨[lastB k.val]⟩⟩ := by decide +kernel

theorem w_EA3 {w0 : World} {fr : Fr} {m : Mem} {i2 i4 i5 k : Nat} {x : Ac} {Q : Value → Mem → Prop} (e2 : fr 2 = .pointer (some ⟨i2, 0, none⟩)) (e4 : fr 4 = .pointer (some ⟨i4, 0, none⟩)) (e5 : fr 5 = .pointer (some ⟨i5, 0, none⟩))
    (g2 : m.get i2 = .own x.cells 57) (g4 : m.get i4 = .own [.string ⟨#[]⟩, .int .i64 0, .int .i64 0, .int .u32 0, .int .i64 0] 36) (g5 : m.get i5 = .own [.string ⟨⟨nameL x.ns ++ [lastB k]⟩⟩, .int .i64 ((k : Int) * 2048), .int .i64 (1 + x.s % 600), .int .u32 x.p, .int .i64 (x.w % 4)] 36) (hne : i4 ≠ i5) (hk : k < 8) (hr : x.rng)
    (hq : ∀ m', m'.next = m.next → (∀ i, i ≠ i4 → i ≠ i5 → m'.get i = m.get i) → Q (.agg ⟨(entA x k).cells⟩) m') : AbW Tryd.prog w0 rc22_3 (bodyA ro22 Q) fr m := by
  obtain ⟨ns, v, xa, xs, xp, xw⟩ := x
  obtain ⟨h1, h2, h3, h4⟩ := hr
  simp only at h1 h2 h3 h4 g5
  simp only [Ac.cells] at g2
  have n24 : i2 ≠ i4 := own_ne g2 g4 (by decide)
  have n25 : i2 ≠ i5 := own_ne g2 g5 (by decide)
  have hr3 : dBin .rem (.int .u16 xa) (.int .u16 8) = some (.int .u16 (xa % 8)) := by rw [dBin_rem (by omega), Int.tmod_eq_emod_of_nonneg h1.1]
  have w1 : IntKind.i64.wrap xa = xa := w64 (by omega)
  simp -implicitDefEqProofs (disch := first | assumption | (simp only [wnA]; done) | (simp only [wnA]; omega) | omega | fail) [rc22_3, ro22, wkA, retV, stabOk, dC, ev, fillD, pickCells, putAt, bnd, slD, List.getElem?_cons_zero, List.getElem?_cons_succ, dR.eq_20, Mem.cell, Mem.row, wmA, e2, g2, hr3]
  have last : ∀ (fr : Fr) (M : Mem) (A : Int), fr 4 = .pointer (some ⟨i4, 0, none⟩) → fr 5 = .pointer (some ⟨i5, 0, none⟩) → M.next = m.next → (∀ i, i ≠ i4 → i ≠ i5 → M.get i = m.get i) → M.get i4 = .own [.string ⟨#[]⟩, .int .i64 0, .int .i64 0, .int .u32 0, .int .i64 0] 36 →
      M.get i5 = .own [.string ⟨⟨nameL ns ++ [lastB k]⟩⟩, .int .i64 A, .int .i64 (1 + xs % 600), .int .u32 xp, .int .i64 (xw % 4)] 36 → A = (if xa % 8 = 7 then xa else (k : Int) * 2048) → AbW Tryd.prog w0 rc22_2 (bodyA ro22 Q) fr M := by
    intro fr M A e4 e5 hn ho g4 g5 hA
    simp -implicitDefEqProofs (disch := first | assumption | (simp only [wnA]; done) | (simp only [wnA]; omega) | omega | fail) [rc22_2, ro22, wkA, retV, stabOk, dC, ev, fillD, pickCells, putAt, bnd, slD, List.getElem?_cons_zero, List.getElem?_cons_succ, dR.eq_20, Mem.cell, Mem.row, wmA, e4, e5, g5]
    refine SK_st (i := i4) (o := 0) (by simp [wkA, retV, stabOk, dC, ev, fillD, pickCells, putAt, bnd, slD, List.getElem?_cons_zero, List.getElem?_cons_succ, dR.eq_20, e4]) (e := 36) g4 (by simp) (by simp [wkA, retV, stabOk, dC, ev, fillD, pickCells, putAt, bnd, slD, List.getElem?_cons_zero, List.getElem?_cons_succ, dR.eq_20]) (by simp [wkA, retV, stabOk, dC, ev, fillD, pickCells, putAt, bnd, slD, List.getElem?_cons_zero, List.getElem?_cons_succ, dR.eq_20, oneC]) ?_
    simp -implicitDefEqProofs (disch := first | assumption | (simp only [wnA]; done) | (simp only [wnA]; omega) | omega | fail) [wkA, retV, stabOk, dC, ev, fillD, pickCells, putAt, bnd, slD, List.getElem?_cons_zero, List.getElem?_cons_succ, dR.eq_20, Mem.cell, Mem.row, wmA, e4]
    subst hA
    refine hq _ hn fun i h1 h2 => ?_
    rw [Mem.set_other _ _ h1]
    exact ho i h1 h2
  by_cases h7 : xa % 8 = 7
  · simp -implicitDefEqProofs (disch := first | assumption | (simp only [wnA]; done) | (simp only [wnA]; omega) | omega | fail) [rc22_3, ro22, wkA, retV, stabOk, dC, ev, fillD, pickCells, putAt, bnd, slD, List.getElem?_cons_zero, List.getElem?_cons_succ, dR.eq_20, Mem.cell, Mem.row, wmA, e2, g2, h7, e5]
    refine SK_st (i := i5) (o := 1) (by simp [wkA, retV, stabOk, dC, ev, fillD, pickCells, putAt, bnd, slD, List.getElem?_cons_zero, List.getElem?_cons_succ, dR.eq_20, e5]) (e := 36) g5 (by simp) (by simp [wkA, retV, stabOk, dC, ev, fillD, pickCells, putAt, bnd, slD, List.getElem?_cons_zero, List.getElem?_cons_succ, dR.eq_20]) (by simp [wkA, retV, stabOk, dC, ev, fillD, pickCells, putAt, bnd, slD, List.getElem?_cons_zero, List.getElem?_cons_succ, dR.eq_20, oneC]) ?_
    simp -implicitDefEqProofs (disch := first | assumption | (simp only [wnA]; done) | (simp only [wnA]; omega) | omega | fail) [wkA, retV, stabOk, dC, ev, fillD, pickCells, putAt, bnd, slD, List.getElem?_cons_zero, List.getElem?_cons_succ, dR.eq_20, Mem.cell, Mem.row, wmA]
    refine last _ _ xa (by simp [e4]) (by simp [e5]) rfl (fun i h1 h2 => Mem.set_other _ _ h2) ?_ ?_ (by rw [if_pos h7])
    · rw [Mem.set_other _ _ hne]; exact g4
    · rw [Mem.set_same]; simp [w1]
  · simp -implicitDefEqProofs (disch := first | assumption | (simp only [wnA]; done) | (simp only [wnA]; omega) | omega | fail) [wkA, retV, stabOk, dC, ev, fillD, pickCells, putAt, bnd, slD, List.getElem?_cons_zero, List.getElem?_cons_succ, dR.eq_20, Mem.cell, Mem.row, wmA, beqF h7]
    refine last _ _ ((k : Int) * 2048) (by simp [e4]) (by simp [e5]) rfl (fun i h1 h2 => rfl) g4 g5 (by rw [if_neg h7])

theorem c_EntryA {w0 : World} {m : Mem} {x : Ac} {k : Nat} {Q : Value → Mem → Prop} (hv : SlR m 1 x.v (x.ns.map byteV) x.ns.length) (hvb : ∀ b, blk x.v = some b → b < m.next) (hk : k < 8) (hr : x.rng) (hn : x.ns.length ≤ 9223372036854775807)
    (hq : ∀ m', Old m m' → Q (.agg ⟨(entA x k).cells⟩) m') : AbC Tryd.prog w0 22 [.agg ⟨x.cells⟩, .int .i64 (k : Int)] m Q := by
  refine AbC_fn ok22 (by simp) ?_
  obtain ⟨ns, v, xa, xs, xp, xw⟩ := x
  obtain ⟨h1, h2, h3, h4⟩ := hr
  simp only at hv hvb hn h1 h2 h3 h4
  have en := enc_last ⟨k, hk⟩
  simp only at en
  have w1 : IntKind.i64.wrap (97 + (k : Int)) = 97 + (k : Int) := w64 (by omega)
  have w2 : IntKind.i32.wrap (97 + (k : Int)) = 97 + (k : Int) := by simp [IntKind.wrap, IntKind.signed, IntKind.bits]; omega
  have w3 : IntKind.i64.wrap ((k : Int) * 2048) = (k : Int) * 2048 := w64 (by omega)
  have t1 : xs.tmod 600 = xs % 600 := Int.tmod_eq_emod_of_nonneg h2.1
  have t2 : xw.tmod 4 = xw % 4 := Int.tmod_eq_emod_of_nonneg h4.1
  have t3 : xa.tmod 8 = xa % 8 := Int.tmod_eq_emod_of_nonneg h1.1
  have w4 : IntKind.i64.wrap xs = xs := w64 (by omega)
  have w5 : IntKind.i64.wrap (1 + xs % 600) = 1 + xs % 600 := w64 (by omega)
  have w6 : IntKind.i64.wrap (xw % 4) = xw % 4 := w64 (by omega)
  have hr1 : dBin .rem (.int .i64 xs) (.int .i64 600) = some (.int .i64 (xs % 600)) := by rw [dBin_rem (by omega), t1]
  have hr2 : dBin .rem (.int .u8 xw) (.int .u8 4) = some (.int .u8 (xw % 4)) := by rw [dBin_rem (by omega), t2]
  have hnl : (nameL ns).length + 1 ≤ 100 := by unfold nameL; simp; omega
  have hadd : dBin .add (.string ⟨⟨nameL ns⟩⟩) (.string ⟨⟨[lastB k]⟩⟩) = some (.string ⟨⟨nameL ns ++ [lastB k]⟩⟩) := by
    rw [dBin_sadd (by show (nameL ns).length + 1 ≤ _; omega), ba_app]
  simp -implicitDefEqProofs (disch := first | assumption | (simp only [wnA]; done) | (simp only [wnA]; omega) | omega | fail) [rc22, ro22, wkA, retV, stabOk, dC, ev, fillD, pickCells, putAt, bnd, slD, List.getElem?_cons_zero, List.getElem?_cons_succ, dR.eq_20, Mem.cell, Mem.row, wmA, Ac.cells, hr1, hr2, w1, w2, w3, w4, w5, w6, en]
  refine ⟨?_, ?_⟩
  · simp -implicitDefEqProofs (disch := first | assumption | (simp only [wnA]; done) | (simp only [wnA]; omega) | omega | fail) [rc22_0, wkA, retV, stabOk, dC, ev, fillD, pickCells, putAt, bnd, slD, List.getElem?_cons_zero, List.getElem?_cons_succ, dR.eq_20, Mem.cell, Mem.row, wmA]
    refine c_nums ((hv.keep fun b hb => Mem.push_old _ _ (hvb b hb)).keep fun b hb => Mem.push_old _ _ (Nat.lt_succ_of_lt (hvb b hb))) hn ?_
    simp -implicitDefEqProofs (disch := first | assumption | (simp only [wnA]; done) | (simp only [wnA]; omega) | omega | fail) [wkA, retV, stabOk, dC, ev, fillD, pickCells, putAt, bnd, slD, List.getElem?_cons_zero, List.getElem?_cons_succ, dR.eq_20, Mem.cell, Mem.row, wmA, hadd]
    refine SK_st (i := m.next + 1 + 1) (o := 0) (by simp [wkA, retV, stabOk, dC, ev, fillD, pickCells, putAt, bnd, slD, List.getElem?_cons_zero, List.getElem?_cons_succ, dR.eq_20]) (e := 36) (cs := [.string ⟨#[]⟩, .int .i64 0, .int .i64 0, .int .u32 0, .int .i64 0]) (by simp -implicitDefEqProofs (disch := first | assumption | (simp only [wnA]; done) | (simp only [wnA]; omega) | omega | fail) [Mem.cell, Mem.row, wmA]) (by simp) (by simp [wkA, retV, stabOk, dC, ev, fillD, pickCells, putAt, bnd, slD, List.getElem?_cons_zero, List.getElem?_cons_succ, dR.eq_20]) (by simp [wkA, retV, stabOk, dC, ev, fillD, pickCells, putAt, bnd, slD, List.getElem?_cons_zero, List.getElem?_cons_succ, dR.eq_20, oneC]) ?_
    simp -implicitDefEqProofs (disch := first | assumption | (simp only [wnA]; done) | (simp only [wnA]; omega) | omega | fail) [wkA, retV, stabOk, dC, ev, fillD, pickCells, putAt, bnd, slD, List.getElem?_cons_zero, List.getElem?_cons_succ, dR.eq_20, Mem.cell, Mem.row, wmA]
    refine w_EA3 (i2 := m.next) (i4 := m.next + 1) (i5 := m.next + 1 + 1) (x := ⟨ns, v, xa, xs, xp, xw⟩) (k := k) (by simp) (by simp) (by simp) (by simp -implicitDefEqProofs (disch := first | assumption | (simp only [wnA]; done) | (simp only [wnA]; omega) | omega | fail) [Mem.cell, Mem.row, wmA, Ac.cells]) (by simp -implicitDefEqProofs (disch := first | assumption | (simp only [wnA]; done) | (simp only [wnA]; omega) | omega | fail) [Mem.cell, Mem.row, wmA]) (by simp -implicitDefEqProofs (disch := first | assumption | (simp only [wnA]; done) | (simp only [wnA]; omega) | omega | fail) [Mem.cell, Mem.row, wmA]) (by omega) hk ⟨h1, h2, h3, h4⟩ fun m' hn' ho => hq m' ⟨by rw [hn']; simp; omega, fun i hi => ?_⟩
    rw [ho i (by omega) (by omega), Mem.set_other _ _ (by omega), Mem.push_old _ _ (by simp; omega), Mem.push_old _ _ (by simp; omega), Mem.push_old _ _ hi]
  · simp -implicitDefEqProofs (disch := first | assumption | (simp only [wnA]; done) | (simp only [wnA]; omega) | omega | fail) [rc22_1, wkA, retV, stabOk, dC, ev, fillD, pickCells, putAt, bnd, slD, List.getElem?_cons_zero, List.getElem?_cons_succ, dR.eq_20, Mem.cell, Mem.row, wmA]
    refine c_nums (((hv.keep fun b hb => Mem.push_old _ _ (hvb b hb)).keep fun b hb => Mem.push_old _ _ (Nat.lt_succ_of_lt (hvb b hb))).keep fun b hb => Mem.push_old _ _ (Nat.lt_succ_of_lt (Nat.lt_succ_of_lt (hvb b hb)))) hn ?_
    simp -implicitDefEqProofs (disch := first | assumption | (simp only [wnA]; done) | (simp only [wnA]; omega) | omega | fail) [wkA, retV, stabOk, dC, ev, fillD, pickCells, putAt, bnd, slD, List.getElem?_cons_zero, List.getElem?_cons_succ, dR.eq_20, Mem.cell, Mem.row, wmA, hadd]
    refine SK_st (i := m.next + 1 + 1) (o := 0) (by simp [wkA, retV, stabOk, dC, ev, fillD, pickCells, putAt, bnd, slD, List.getElem?_cons_zero, List.getElem?_cons_succ, dR.eq_20]) (e := 36) (cs := [.string ⟨#[]⟩, .int .i64 0, .int .i64 0, .int .u32 0, .int .i64 0]) (by simp -implicitDefEqProofs (disch := first | assumption | (simp only [wnA]; done) | (simp only [wnA]; omega) | omega | fail) [Mem.cell, Mem.row, wmA]) (by simp) (by simp [wkA, retV, stabOk, dC, ev, fillD, pickCells, putAt, bnd, slD, List.getElem?_cons_zero, List.getElem?_cons_succ, dR.eq_20]) (by simp [wkA, retV, stabOk, dC, ev, fillD, pickCells, putAt, bnd, slD, List.getElem?_cons_zero, List.getElem?_cons_succ, dR.eq_20, oneC]) ?_
    simp -implicitDefEqProofs (disch := first | assumption | (simp only [wnA]; done) | (simp only [wnA]; omega) | omega | fail) [wkA, retV, stabOk, dC, ev, fillD, pickCells, putAt, bnd, slD, List.getElem?_cons_zero, List.getElem?_cons_succ, dR.eq_20, Mem.cell, Mem.row, wmA]
    refine w_EA3 (i2 := m.next) (i4 := m.next + 1) (i5 := m.next + 1 + 1) (x := ⟨ns, v, xa, xs, xp, xw⟩) (k := k) (by simp) (by simp) (by simp) (by simp -implicitDefEqProofs (disch := first | assumption | (simp only [wnA]; done) | (simp only [wnA]; omega) | omega | fail) [Mem.cell, Mem.row, wmA, Ac.cells]) (by simp -implicitDefEqProofs (disch := first | assumption | (simp only [wnA]; done) | (simp only [wnA]; omega) | omega | fail) [Mem.cell, Mem.row, wmA]) (by simp -implicitDefEqProofs (disch := first | assumption | (simp only [wnA]; done) | (simp only [wnA]; omega) | omega | fail) [Mem.cell, Mem.row, wmA]) (by omega) hk ⟨h1, h2, h3, h4⟩ fun m' hn' ho => hq m' ⟨by rw [hn']; simp; omega, fun i hi => ?_⟩
    rw [ho i (by omega) (by omega), Mem.set_other _ _ (by omega), Mem.push_old _ _ (by simp; omega), Mem.push_old _ _ (by simp; omega), Mem.push_old _ _ hi]

/-! Acts. -/
theorem acl (x : Ac) : x.cells.length = 5 := rfl
def AcOk (m : Mem) (x : Ac) : Prop := x.rng ∧ SlR m 1 x.v (x.ns.map byteV) x.ns.length ∧ (∀ b, blk x.v = some b → b < m.next) ∧ x.ns.length ≤ maxLen
theorem AcOk.old {m m' : Mem} {x : Ac} (h : AcOk m x) (o : Old m m') : AcOk m' x :=
  ⟨h.1, h.2.1.keep fun b hb => o.2 b (h.2.2.1 b hb), fun b hb => Nat.lt_of_lt_of_le (h.2.2.1 b hb) o.1, h.2.2.2⟩
theorem absT_acts {m : Mem} {td : TD} {v : Value} (h : AbsT m td [v]) (hs : Fits (.sl (.recd [.sl (.int .u8), .int .u16, .int .u16, .int .u32, .int .u8])) td) :
    ∃ xs : List Ac, SlR m 5 v (xs.flatMap Ac.cells) xs.length ∧ (∀ x ∈ xs, AcOk m x) ∧ ∀ b, blk v = some b → b < m.next := by
  obtain ⟨l, xs, rfl, h1, h2, h3⟩ := absT_slice (f := Ac.cells) (z := 5) (R := fun d x => AcOk m x) acl (fun d c hf ha => by
    obtain ⟨l, rfl, hl, hfl⟩ := absT_recd ha hf
    obtain ⟨d1, r1, c1, e1, rfl, rfl, t1, f1, hl, hfl⟩ := absTs_cons hl hfl
    obtain ⟨d2, r2, c2, e2, rfl, rfl, t2, f2, hl, hfl⟩ := absTs_cons hl hfl
    obtain ⟨d3, r3, c3, e3, rfl, rfl, t3, f3, hl, hfl⟩ := absTs_cons hl hfl
    obtain ⟨d4, r4, c4, e4, rfl, rfl, t4, f4, hl, hfl⟩ := absTs_cons hl hfl
    obtain ⟨d5, r5, c5, e5, rfl, rfl, t5, f5, hl, hfl⟩ := absTs_cons hl hfl
    obtain ⟨rfl, rfl⟩ := absTs_nil hl hfl
    obtain ⟨v1, rfl⟩ := t1.one f1 (fun _ h => by cases h)
    obtain ⟨n2, rfl, rfl, w2⟩ := absT_int t2 f2
    obtain ⟨n3, rfl, rfl, w3⟩ := absT_int t3 f3
    obtain ⟨n4, rfl, rfl, w4⟩ := absT_int t4 f4
    obtain ⟨n5, rfl, rfl, w5⟩ := absT_int t5 f5
    obtain ⟨l1, ys, rfl, y1, y2, y3⟩ := absT_slice (f := fun b : UInt8 => [byteV b]) (z := 1) (R := fun _ _ => True) (fun _ => rfl) arg_u8 t1 f1
    rw [flat_one byteV] at y1
    have := absT_len t1
    exact ⟨⟨ys, v1, n2, n3, n4, n5⟩, rfl, ⟨wf_u16 w2, wf_u16 w3, wf_u32 w4, wf_u8 w5⟩, y1, y3, by rw [y2.length]; exact this⟩) h hs
  exact ⟨xs, h1, fun x hx => by obtain ⟨_, _, hr⟩ := h2.right x hx; exact hr, h3⟩

def entsJ (xs : List Ac) (j : Nat) : List En := (List.range (min 8 j)).map fun k => entA (xs.getD k default) k
def entsA (xs : List Ac) : List En := entsJ xs xs.length
theorem entsJ_len (xs : List Ac) (j : Nat) : (entsJ xs j).length = min 8 j := by simp [entsJ]
theorem entsJ_lt {xs : List Ac} {j : Nat} (h : j < 8) (hj : j < xs.length) : entsJ xs (j + 1) = entsJ xs j ++ [entA xs[j] j] := by
  unfold entsJ
  rw [show min 8 (j + 1) = j + 1 from by omega, show min 8 j = j from by omega, List.range_succ, List.map_append]
  simp [List.getD, List.getElem?_eq_getElem hj]
theorem entsJ_ge {xs : List Ac} {j : Nat} (h : ¬ j < 8) : entsJ xs (j + 1) = entsJ xs j := by
  unfold entsJ
  rw [show min 8 (j + 1) = 8 from by omega, show min 8 j = 8 from by omega]
theorem nch_pln (b : UInt8) : plnC (nch b) := by
  unfold nch
  have h : b.toNat % 11 < 11 := Nat.mod_lt _ (by omega)
  have key : ∀ k : Fin 11, plnC (nameCs.getD k.val 0) := by unfold plnC; decide +kernel
  exact key ⟨_, h⟩
theorem lastB_pln : ∀ k : Fin 8, plnC (lastB k.val) := by unfold plnC; decide +kernel
theorem nameL_pln (ns : List UInt8) : ∀ c ∈ nameL ns, plnC c := by
  intro c hc
  unfold nameL at hc
  rcases List.mem_cons.1 hc with rfl | hc
  · unfold plnC; decide
  · obtain ⟨b, -, rfl⟩ := List.mem_map.1 hc
    exact nch_pln b
theorem entA_good {x : Ac} {k : Nat} (hk : k < 8) (hr : x.rng) : EnP (entA x k) ∧ (entA x k).nm.size ≤ 10 := by
  obtain ⟨h1, h2, h3, h4⟩ := hr
  have hp : ∀ c ∈ nameL x.ns ++ [lastB k], plnC c := by
    intro c hc
    rcases List.mem_append.1 hc with hc | hc
    · exact nameL_pln _ c hc
    · simp at hc; subst hc
      exact lastB_pln ⟨k, hk⟩
  refine ⟨⟨⟨pln_str hp, ?_, ?_, h3, ?_⟩, hp⟩, ?_⟩
  · show 0 ≤ (if x.a % 8 = 7 then x.a else (k : Int) * 2048) ∧ (if x.a % 8 = 7 then x.a else (k : Int) * 2048) ≤ 4294967295
    split <;> omega
  · show 0 ≤ 1 + x.s % 600 ∧ 1 + x.s % 600 ≤ 4294967295
    omega
  · show x.w % 4 = 0 ∨ x.w % 4 = 1 ∨ x.w % 4 = 2 ∨ x.w % 4 = 3
    omega
  · show (nameL x.ns ++ [lastB k]).length ≤ 10
    unfold nameL; simp; omega
theorem entsJ_good {xs : List Ac} {j : Nat} (hj : j ≤ xs.length) (h : ∀ x ∈ xs, x.rng) : ∀ e ∈ entsJ xs j, EnP e ∧ e.nm.size ≤ 10 := by
  intro e he
  obtain ⟨k, hk, rfl⟩ := List.mem_map.1 he
  have hk := List.mem_range.1 hk
  have hkl : k < xs.length := by omega
  have hx : xs.getD k default = xs[k] := by simp [List.getD, List.getElem?_eq_getElem hkl]
  rw [hx]
  exact entA_good (by omega) (h _ (List.getElem_mem hkl))

theorem SlR.one {m : Mem} {sz n : Nat} {v : Value} {cs : List Value} (h : SlR m sz v cs n) : oneC v = true := by
  rcases h.2 with ⟨_, rfl | rfl⟩ | ⟨i, o, L, rfl, _⟩ <;> rfl
theorem c_Entries {w0 : World} {m : Mem} {v : Value} {xs : List Ac} {Q : Value → Mem → Prop} (hv : SlR m 5 v (xs.flatMap Ac.cells) xs.length) (hb : ∀ b, blk v = some b → b < m.next) (hx : ∀ x ∈ xs, AcOk m x) (hn : xs.length ≤ 9223372036854775807)
    (hq : ∀ m' ob, Old m m' → SlO m' 36 5 ob ((entsA xs).flatMap En.cells) (entsA xs).length → (∀ i, ob = some i → m.next ≤ i) → Q (slV ob (entsA xs).length 5) m') : AbC Tryd.prog w0 10 [v] m Q := by
  refine AbC_fn ok10 (by simp) ?_
  simp -implicitDefEqProofs (disch := first | assumption | (simp only [wnA]; done) | (simp only [wnA]; omega) | omega | fail) [rc10, ro10, wkA, retV, stabOk, dC, ev, fillD, pickCells, putAt, bnd, slD, List.getElem?_cons_zero, List.getElem?_cons_succ, dR.eq_20, Mem.cell, Mem.row, wmA, hv.slen]
  refine LoopW_of (fun k ts m' => ∃ j ob, j + k = xs.length ∧ Old m m' ∧ ts 3 = slV ob (entsJ xs j).length 5 ∧ ts 6 = v ∧ ts 7 = .int .i64 (xs.length : Nat) ∧ ts 8 = .int .i64 (j : Nat) ∧ SlO m' 36 5 ob ((entsJ xs j).flatMap En.cells) (entsJ xs j).length ∧ (∀ i, ob = some i → m.next ≤ i)) xs.length ?_ ?_
  · exact ⟨0, none, by omega, Old.refl m, by simp [entsJ]; rfl, by simp [frA_at], by simp, by simp, ⟨rfl, rfl⟩, (fun i h => by cases h)⟩
  · rintro k ts m1 K ⟨j, ob, hj, o1, t3, t6, t7, t8, so, hob⟩ hK
    simp -implicitDefEqProofs (disch := first | assumption | (simp only [wnA]; done) | (simp only [wnA]; omega) | omega | fail) [rc10_1, wkA, retV, stabOk, dC, ev, fillD, pickCells, putAt, bnd, slD, List.getElem?_cons_zero, List.getElem?_cons_succ, dR.eq_20, Mem.cell, Mem.row, wmA, t7, t8]
    by_cases hjl : j < xs.length
    · have ijl : (j : Int) < (xs.length : Int) := by omega
      have hjw : IntKind.i64.wrap ((j : Int) + 1) = ((j + 1 : Nat) : Int) := by rw [w64 (by omega)]; omega
      obtain ⟨bi, bo, L, hvv, hL, hLl, hLt, -⟩ := (hv.keep fun b h => o1.2 b (hb b h)).at hjl
      rw [flat_at acl xs (List.getElem?_eq_getElem hjl)] at hLt
      have hxo := (hx xs[j] (List.getElem_mem hjl)).old o1
      have hJ := fun h => entsJ_lt (xs := xs) (j := j) h hjl
      generalize xs[j] = x at *
      have hLt' : (L.drop (bo + j * 5)).take 5 = [x.v, .int .u16 x.a, .int .u16 x.s, .int .u32 x.p, .int .u8 x.w] := hLt
      have hle : bo + j * 5 + 5 ≤ L.length := by omega
      have hone := hxo.2.1.one
      rw [hvv] at t6
      simp -implicitDefEqProofs (disch := first | assumption | (simp only [wnA]; done) | (simp only [wnA]; omega) | omega | fail) [hjl, ijl, rc10_0, wkA, retV, stabOk, dC, ev, fillD, pickCells, putAt, bnd, slD, List.getElem?_cons_zero, List.getElem?_cons_succ, dR.eq_20, Mem.cell, Mem.row, wmA, t3, t6, t7, t8, sidx_at, hL, hLt', hle]
      refine SK_st (i := m1.next) (o := 0) (by simp [wkA, retV, stabOk, dC, ev, fillD, pickCells, putAt, bnd, slD, List.getElem?_cons_zero, List.getElem?_cons_succ, dR.eq_20]) (e := 57) (by simp -implicitDefEqProofs (disch := first | assumption | (simp only [wnA]; done) | (simp only [wnA]; omega) | omega | fail) [Mem.cell, Mem.row, wmA]; rfl) (by simp) (by simp [wkA, retV, stabOk, dC, ev, fillD, pickCells, putAt, bnd, slD, List.getElem?_cons_zero, List.getElem?_cons_succ, dR.eq_20]) (by simp [wkA, retV, stabOk, dC, ev, fillD, pickCells, putAt, bnd, slD, List.getElem?_cons_zero, List.getElem?_cons_succ, dR.eq_20]; exact ⟨hone, rfl, rfl, rfl, rfl⟩) ?_
      obtain ⟨M, hM⟩ : ∃ M, (m1.push (.own [.slice none 0 0, .int .u16 0, .int .u16 0, .int .u32 0, .int .u8 0] 57)).set m1.next (.own [x.v, .int .u16 x.a, .int .u16 x.s, .int .u32 x.p, .int .u8 x.w] 57) = M := ⟨_, rfl⟩
      have oM : Old m1 M := by subst hM; exact ((Old.refl m1).push _).set (Nat.le_refl _) _
      have gM : M.get m1.next = .own [x.v, .int .u16 x.a, .int .u16 x.s, .int .u32 x.p, .int .u8 x.w] 57 := by subst hM; rw [Mem.set_same]
      simp -implicitDefEqProofs (disch := first | assumption | (simp only [wnA]; done) | (simp only [wnA]; omega) | omega | fail) [wkA, retV, stabOk, dC, ev, fillD, pickCells, putAt, bnd, slD, List.getElem?_cons_zero, List.getElem?_cons_succ, dR.eq_20, Mem.cell, Mem.row, wmA, hM]
      have soM := so.keep oM.1 fun b hb => by subst hb; exact oM.2 b so.lt
      by_cases h8 : j < 8
      · have i8 : (j : Int) < 8 := by omega
        have hJ := hJ h8
        have hlen := entsJ_len xs j
        simp -implicitDefEqProofs (disch := first | assumption | (simp only [wnA]; done) | (simp only [wnA]; omega) | omega | fail) [wkA, retV, stabOk, dC, ev, fillD, pickCells, putAt, bnd, slD, List.getElem?_cons_zero, List.getElem?_cons_succ, dR.eq_20, Mem.cell, Mem.row, wmA, i8, gM, t3]
        refine c_EntryA (x := x) (k := j) (hxo.2.1.keep fun b hb => oM.2 b (hxo.2.2.1 b hb)) (fun b hb => Nat.lt_of_lt_of_le (hxo.2.2.1 b hb) oM.1) h8 hxo.1 (Nat.le_trans hxo.2.2.2 (by decide)) fun m3 o3 => ?_
        obtain ⟨e, he⟩ : ∃ e, entA x j = e := ⟨_, rfl⟩
        rw [he] at hJ ⊢
        obtain ⟨nm, ea, es, ep, ew⟩ := e
        simp -implicitDefEqProofs (disch := first | assumption | (simp only [wnA]; done) | (simp only [wnA]; omega) | omega | fail) [wkA, retV, stabOk, dC, ev, fillD, pickCells, putAt, bnd, slD, List.getElem?_cons_zero, List.getElem?_cons_succ, dR.eq_20, Mem.cell, Mem.row, wmA, En.cells]
        rw [SK_bsl (cs := [.string nm, .int .i64 ea, .int .i64 es, .int .u32 ep, .int .i64 ew]) (by simp [wkA, retV, stabOk, dC, ev, fillD, pickCells, putAt, bnd, slD, List.getElem?_cons_zero, List.getElem?_cons_succ, dR.eq_20]) (by simp)]
        simp -implicitDefEqProofs (disch := first | assumption | (simp only [wnA]; done) | (simp only [wnA]; omega) | omega | fail) [wkA, retV, stabOk, dC, ev, fillD, pickCells, putAt, bnd, slD, List.getElem?_cons_zero, List.getElem?_cons_succ, dR.eq_20, Mem.cell, Mem.row, wmA, t3]
        have so3 := (soM.keep o3.1 fun b hb => by subst hb; exact o3.2 b soM.lt).push (.own [.string nm, .int .i64 ea, .int .i64 es, .int .u32 ep, .int .i64 ew] 36)
        have o13 := ((o1.trans oM).trans o3).push (.own [.string nm, .int .i64 ea, .int .i64 es, .int .u32 ep, .int .i64 ew] 36)
        refine SK_appP o13 so3 hob (by simp [wkA, retV, stabOk, dC, ev, fillD, pickCells, putAt, bnd, slD, List.getElem?_cons_zero, List.getElem?_cons_succ, dR.eq_20]) (ys := [.string nm, .int .i64 ea, .int .i64 es, .int .u32 ep, .int .i64 ew]) (k := 1) (by simp [wkA, retV, stabOk, dC, ev, fillD, pickCells, putAt, bnd, slD, List.getElem?_cons_zero, List.getElem?_cons_succ, dR.eq_20, elemsV, Mem.cell, Mem.row, wmA]) (by simp [wkA, retV, stabOk, dC, ev, fillD, pickCells, putAt, bnd, slD, List.getElem?_cons_zero, List.getElem?_cons_succ, dR.eq_20, lenV]) (by omega) rfl (by omega) (by simp [maxLen]; omega) rfl fun ob' m4 o4 s4 hob4 => ?_
        simp -implicitDefEqProofs (disch := first | assumption | (simp only [wnA]; done) | (simp only [wnA]; omega) | omega | fail) [wkA, retV, stabOk, dC, ev, fillD, pickCells, putAt, bnd, slD, List.getElem?_cons_zero, List.getElem?_cons_succ, dR.eq_20, Mem.cell, Mem.row, wmA, t8]
        have hl' : (entsJ xs (j + 1)).length = (entsJ xs j).length + 1 := by rw [hJ]; simp
        refine hK (k - 1) _ m4 (by omega) ⟨j + 1, ob', by omega, o4, by simp [hl'], by simp [t6, hvv], by simp [t7], by simp [hjw], ?_, hob4⟩
        rw [hJ, List.flatMap_append]
        simpa [En.cells] using s4
      · have i8 : ¬ (j : Int) < 8 := by omega
        simp -implicitDefEqProofs (disch := first | assumption | (simp only [wnA]; done) | (simp only [wnA]; omega) | omega | fail) [wkA, retV, stabOk, dC, ev, fillD, pickCells, putAt, bnd, slD, List.getElem?_cons_zero, List.getElem?_cons_succ, dR.eq_20, Mem.cell, Mem.row, wmA, i8, t8]
        have hJ := entsJ_ge (xs := xs) h8
        refine hK (k - 1) _ M (by omega) ⟨j + 1, ob, by omega, o1.trans oM, by simp [t3, hJ], by simp [t6, hvv], by simp [t7], by simp [hjw], by rw [hJ]; exact soM, hob⟩
    · have hjj : j = xs.length := by omega
      subst hjj
      have ijl : ¬ (xs.length : Int) < (xs.length : Int) := by omega
      simp -implicitDefEqProofs (disch := first | assumption | (simp only [wnA]; done) | (simp only [wnA]; omega) | omega | fail) [wkA, retV, stabOk, dC, ev, fillD, pickCells, putAt, bnd, slD, List.getElem?_cons_zero, List.getElem?_cons_succ, dR.eq_20, Mem.cell, Mem.row, wmA, ijl, rc10_2, t3]
      exact hq m1 ob o1 so hob
end Go.Proofs.YtgfkjldohilmkaaDoor.Ab

set_option linter.unusedVariables false
set_option linter.unusedSimpArgs false
namespace Go.Proofs.YtgfkjldohilmkaaDoor.Ab
open Go Go.RowKit
set_option maxHeartbeats 4000000
set_option maxRecDepth 100000

def letterB (c : Int) : Bool := (decide (97 ≤ c) && decide (c ≤ 122)) || (decide (65 ≤ c) && decide (c ≤ 90))
def okc (k : Nat) (c : Int) : Bool := letterB c || (k != 0 && (c == 46 || c == 45 || c == 95 || (decide (48 ≤ c) && decide (c ≤ 57))))
def nameB (s : ByteArray) : Bool := ((List.range s.size).all fun k => okc k (byteAt s k)) && (decide (0 < s.size) && decide (s.size ≤ 32))

theorem c_Name {w0 : World} {m : Mem} {s : ByteArray} {Q : Value → Mem → Prop} (hl : s.size ≤ 9223372036854775807) (hq : Q (.bool (nameB s)) m) : AbC Tryd.prog w0 33 [.string s] m Q := by
  refine AbC_fn ok33 (by simp) ?_
  simp -implicitDefEqProofs (disch := first | assumption | (simp only [wnA]; done) | (simp only [wnA]; omega) | omega | fail) [rc33, ro33, wkA, retV, stabOk, dC, ev, fillD, pickCells, putAt, bnd, slD, List.getElem?_cons_zero, List.getElem?_cons_succ, dR_sl, Mem.cell, Mem.row, wmA]
  refine LoopW_of (fun k ts m' => ∃ j, j + k = s.size ∧ m' = m ∧ ts 0 = .string s ∧ ts 7 = .int .i64 (s.size : Nat) ∧ ts 8 = .int .i64 (j : Nat) ∧ (∀ i, i < j → okc i (byteAt s i) = true)) s.size ?_ ?_
  · exact ⟨0, by omega, rfl, by simp [frA_at], by simp, by simp, fun i hi => by omega⟩
  · rintro k ts m1 K ⟨j, hj, rfl, t0, t7, t8, hall⟩ hK
    simp -implicitDefEqProofs (disch := first | assumption | (simp only [wnA]; done) | (simp only [wnA]; omega) | omega | fail) [rc33_1, wkA, retV, stabOk, dC, ev, fillD, pickCells, putAt, bnd, slD, List.getElem?_cons_zero, List.getElem?_cons_succ, dR_sl, Mem.cell, Mem.row, wmA, t7, t8]
    by_cases hjl : j < s.size
    · obtain ⟨g1, g2⟩ := byteAt_get hjl
      have fin : okc j (byteAt s j) = true → ∀ ts' : Fr, ts' 0 = ts 0 → ts' 7 = ts 7 → ts' 8 = .int .i64 ((j + 1 : Nat) : Int) → K ts' m1 := fun ho ts' r0 r7 r8 =>
        hK (k - 1) ts' m1 (by omega) ⟨j + 1, by omega, rfl, by rw [r0, t0], by rw [r7, t7], r8, fun i hi => by
          by_cases hij : i = j
          · subst hij; exact ho
          · exact hall i (by omega)⟩
      have bad : okc j (byteAt s j) = false → Q (.bool false) m1 := fun ho => by
        have : nameB s = false := by
          simp only [nameB, Bool.and_eq_false_iff]
          left
          rw [List.all_eq_false]
          exact ⟨j, by simpa using hjl, by rw [ho]; decide⟩
        rw [← this]; exact hq
      simp -implicitDefEqProofs (disch := first | assumption | (simp only [wnA]; done) | (simp only [wnA]; omega) | omega | fail) [hjl, rc33_0, wkA, retV, stabOk, dC, ev, fillD, pickCells, putAt, bnd, slD, List.getElem?_cons_zero, List.getElem?_cons_succ, dR_sl, Mem.cell, Mem.row, wmA, t0, t8, g1]
      rw [g2] at fin bad
      generalize ((s[j]).toNat : Int) = c at *
      by_cases hj0 : j = 0
      · subst hj0
        have cls : (97 ≤ c ∧ c ≤ 122) ∨ (65 ≤ c ∧ c ≤ 90) ∨ (c < 65) ∨ (90 < c ∧ c < 97) ∨ 122 < c := by omega
        rcases cls with h | h | h | h | h
        all_goals simp -implicitDefEqProofs (disch := first | assumption | (simp only [wnA]; done) | (simp only [wnA]; omega) | omega | fail) [leT, leF, ltT, ltF, beqT, beqF, bneT, bneF, wkA, retV, stabOk, dC, ev, fillD, pickCells, putAt, bnd, slD, List.getElem?_cons_zero, List.getElem?_cons_succ, dR_sl, Mem.cell, Mem.row, wmA, t8, w64]
        all_goals first
          | exact fin (by simp -implicitDefEqProofs (disch := first | assumption | (simp only [wnA]; done) | (simp only [wnA]; omega) | omega | fail) [okc, letterB, leT, leF, ltT, ltF, beqT, beqF]) _ (by simp) (by simp) (by simp)
          | exact bad (by simp -implicitDefEqProofs (disch := first | assumption | (simp only [wnA]; done) | (simp only [wnA]; omega) | omega | fail) [okc, letterB, leT, leF, ltT, ltF, beqT, beqF])
      · have hj1 : ((j : Int) == 0) = false := by simpa using hj0
        have hj2 : (j != 0) = true := by simpa using hj0
        have cls : (97 ≤ c ∧ c ≤ 122) ∨ (65 ≤ c ∧ c ≤ 90) ∨ c < 45 ∨ c = 45 ∨ c = 46 ∨ c = 47 ∨ (48 ≤ c ∧ c ≤ 57) ∨ (57 < c ∧ c < 65) ∨ (90 < c ∧ c < 95) ∨ c = 95 ∨ c = 96 ∨ 122 < c := by omega
        rcases cls with h | h | h | h | h | h | h | h | h | h | h | h
        all_goals simp -implicitDefEqProofs (disch := first | assumption | (simp only [wnA]; done) | (simp only [wnA]; omega) | omega | fail) [leT, leF, ltT, ltF, beqT, beqF, bneT, bneF, wkA, retV, stabOk, dC, ev, fillD, pickCells, putAt, bnd, slD, List.getElem?_cons_zero, List.getElem?_cons_succ, dR_sl, Mem.cell, Mem.row, wmA, t8, hj1, w64]
        all_goals first
          | exact fin (by simp -implicitDefEqProofs (disch := first | assumption | (simp only [wnA]; done) | (simp only [wnA]; omega) | omega | fail) [okc, letterB, leT, leF, ltT, ltF, beqT, beqF, hj2]) _ (by simp) (by simp) (by simp)
          | exact bad (by simp -implicitDefEqProofs (disch := first | assumption | (simp only [wnA]; done) | (simp only [wnA]; omega) | omega | fail) [okc, letterB, leT, leF, ltT, ltF, beqT, beqF, hj2])
    · have hjj : j = s.size := by omega
      subst hjj
      have hn : nameB s = (decide (0 < s.size) && decide (s.size ≤ 32)) := by
        have : (List.range s.size).all (fun k => okc k (byteAt s k)) = true := by
          rw [List.all_eq_true]
          intro i hi
          exact hall i (by simpa using hi)
        simp only [nameB, this, Bool.true_and]
      rw [hn] at hq
      simp -implicitDefEqProofs (disch := first | assumption | (simp only [wnA]; done) | (simp only [wnA]; omega) | omega | fail) [hjl, rc33_2, wkA, retV, stabOk, dC, ev, fillD, pickCells, putAt, bnd, slD, List.getElem?_cons_zero, List.getElem?_cons_succ, dR_sl, Mem.cell, Mem.row, wmA, t0]
      by_cases h0 : 0 < s.size
      · simp only [h0, decide_true, Bool.true_and] at hq
        by_cases h32 : s.size ≤ 32
        · simp only [h32, decide_true] at hq
          have h33 : (s.size : Int) ≤ 32 := by omega
          simp -implicitDefEqProofs (disch := first | assumption | (simp only [wnA]; done) | (simp only [wnA]; omega) | omega | fail) [h0, leT, wkA, retV, stabOk, dC, ev, fillD, pickCells, putAt, bnd, slD, List.getElem?_cons_zero, List.getElem?_cons_succ, dR_sl, Mem.cell, Mem.row, wmA, t0, h32]
          exact hq
        · simp only [h32, decide_false] at hq
          simp -implicitDefEqProofs (disch := first | assumption | (simp only [wnA]; done) | (simp only [wnA]; omega) | omega | fail) [h0, leF, wkA, retV, stabOk, dC, ev, fillD, pickCells, putAt, bnd, slD, List.getElem?_cons_zero, List.getElem?_cons_succ, dR_sl, Mem.cell, Mem.row, wmA, t0, h32]
          exact hq
      · simp only [h0, decide_false, Bool.false_and] at hq
        simp -implicitDefEqProofs (disch := first | assumption | (simp only [wnA]; done) | (simp only [wnA]; omega) | omega | fail) [h0, wkA, retV, stabOk, dC, ev, fillD, pickCells, putAt, bnd, slD, List.getElem?_cons_zero, List.getElem?_cons_succ, dR_sl, Mem.cell, Mem.row, wmA, t0]
        exact hq
end Go.Proofs.YtgfkjldohilmkaaDoor.Ab

set_option linter.unusedVariables false
set_option linter.unusedSimpArgs false
namespace Go.Proofs.YtgfkjldohilmkaaDoor.Ab
open Go Go.RowKit
set_option maxHeartbeats 4000000
set_option maxRecDepth 100000

def dupB (pre : List En) (e : En) : Bool := pre.any fun x => x.nm.data == e.nm.data
def rngP (e : En) : Prop := 0 ≤ e.a ∧ 1 ≤ e.s ∧ e.s ≤ 8192 ∧ e.a + roomOf e.s e.w ≤ 16384 ∧ 0 ≤ e.w ∧ e.w ≤ 3
def rngB (e : En) : Bool := decide (0 ≤ e.a) && decide (1 ≤ e.s) && decide (e.s ≤ 8192) && decide (e.a + roomOf e.s e.w ≤ 16384) && decide (0 ≤ e.w) && decide (e.w ≤ 3)
theorem rngB_iff {e : En} : rngB e = true ↔ rngP e := by
  unfold rngB rngP
  simp only [Bool.and_eq_true, decide_eq_true_eq]
  constructor
  · rintro ⟨⟨⟨⟨⟨a, b⟩, c⟩, d⟩, f⟩, g⟩; exact ⟨a, b, c, d, f, g⟩
  · rintro ⟨a, b, c, d, f, g⟩; exact ⟨⟨⟨⟨⟨a, b⟩, c⟩, d⟩, f⟩, g⟩
def lapB (e x : En) : Bool := decide (e.a < x.a + roomOf x.s x.w) && decide (x.a < e.a + roomOf e.s e.w)
def vdt (pre : List En) (e : En) : Nat := if nameB e.nm = false then 3 else if dupB pre e = true then 4 else if rngB e = false then 5 else if pre.any (lapB e) = true then 6 else 0
def chkF : Nat → List En → Nat → Int × Nat
  | 0, _, _ => (0, 0)
  | f + 1, es, j => match es[j]? with
    | some e => if vdt (es.take j) e = 0 then chkF f es (j + 1) else ((j : Int), vdt (es.take j) e)
    | none => (0, 0)
def chkV (es : List En) : Int × Nat := if es.length = 0 ∨ 8 < es.length then (-1, 7) else chkF es.length es 0
theorem room_rng {s w : Int} (h : 1 ≤ s ∧ s ≤ 8192) : 1 ≤ roomOf s w ∧ roomOf s w ≤ 8192 := by
  unfold roomOf
  split
  · rw [if_neg (by omega), if_neg (by omega)]; omega
  · omega
theorem room_le (s w : Int) : 0 ≤ roomOf s w ∧ roomOf s w ≤ 8192 := by
  unfold roomOf
  split
  · split
    · omega
    · split <;> omega
  · omega
def EnI (e : En) : Prop := e.nm.size ≤ 9223372036854775807 ∧ (-9223372036854775808 ≤ e.a ∧ e.a ≤ 9223372036854775807)
def sameAt (l : List Nat) (fr fr' : Fr) : Prop := ∀ k ∈ l, fr' k = fr k

theorem w_dup {w0 : World} {Q : AQ} {fr : Fr} {m : Mem} {i5 j : Nat} {vs : Value} {pre : List En} {e : En} (hv : SlR m 5 vs (pre.flatMap En.cells) pre.length) (vb : ∀ b, blk vs = some b → b < m.next) (hl : pre.length ≤ 1000000) (hi5 : i5 < m.next)
    (g5 : m.get i5 = .own e.cells 36) (e5 : fr 5 = .pointer (some ⟨i5, 0, none⟩)) (e34 : fr 34 = vs) (e35 : fr 35 = .int .i64 (pre.length : Nat)) (e36 : fr 36 = .int .i64 0) (e4 : fr 4 = .int .i64 (j : Int))
    (hq0 : dupB pre e = false → ∀ fr' m', Old m m' → sameAt [0, 4, 5, 19, 20, 21] fr fr' → Q .normal fr' m')
    (hq1 : dupB pre e = true → ∀ fr' m', Old m m' → fr' 2 = .int .i64 (j : Int) → fr' 3 = .iface 44 (.int .i64 4) → Q .ret fr' m') : LoopW (AbW Tryd.prog w0 rc20_1) (inBlockA 2 Q) fr m := by
  obtain ⟨nm, ea, es, ep, ew⟩ := e
  have g5 : m.get i5 = .own [.string nm, .int .i64 ea, .int .i64 es, .int .u32 ep, .int .i64 ew] 36 := g5
  refine LoopW_of (fun k ts m' => ∃ i, i + k = pre.length ∧ Old m m' ∧ sameAt [0, 4, 5, 19, 20, 21, 34, 35] fr ts ∧ ts 36 = .int .i64 (i : Nat) ∧ dupB (pre.take i) ⟨nm, ea, es, ep, ew⟩ = false) pre.length ?_ ?_
  · exact ⟨0, by omega, Old.refl m, fun k _ => rfl, e36, rfl⟩
  · rintro k ts m1 K ⟨i, hi, o1, sm, t36, hd⟩ hK
    have t4 := (sm 4 (by simp)).trans e4
    have t5 := (sm 5 (by simp)).trans e5
    have t34 := (sm 34 (by simp)).trans e34
    have t35 := (sm 35 (by simp)).trans e35
    simp -implicitDefEqProofs (disch := first | assumption | (simp only [wnA]; done) | (simp only [wnA]; omega) | omega | fail) [rc20_1, wkA, retV, stabOk, dC, ev, fillD, pickCells, putAt, bnd, slD, List.getElem?_cons_zero, List.getElem?_cons_succ, dR.eq_20, Mem.cell, Mem.row, wmA, t35, t36]
    by_cases hil : i < pre.length
    · have iil : (i : Int) < (pre.length : Int) := by omega
      have hiw : IntKind.i64.wrap ((i : Int) + 1) = ((i + 1 : Nat) : Int) := by rw [w64 (by omega)]; omega
      obtain ⟨bi, bo, L, hvv, hL, hLl, hLt, -⟩ := (hv.keep fun b h => o1.2 b (vb b h)).at hil
      rw [flat_at enl pre (List.getElem?_eq_getElem hil)] at hLt
      have htk : dupB (pre.take (i + 1)) ⟨nm, ea, es, ep, ew⟩ = (dupB (pre.take i) ⟨nm, ea, es, ep, ew⟩ || (pre[i].nm.data == nm.data)) := by
        rw [List.take_succ_eq_append_getElem hil, dupB, List.any_append]; simp [dupB]
      have hmem : (pre[i].nm.data == nm.data) = true → dupB pre ⟨nm, ea, es, ep, ew⟩ = true := fun h => List.any_eq_true.2 ⟨pre[i], List.getElem_mem hil, h⟩
      generalize pre[i] = x at *
      obtain ⟨xnm, xa, xs, xp, xw⟩ := x
      have hLt' : (L.drop (bo + i * 5)).take 5 = [.string xnm, .int .i64 xa, .int .i64 xs, .int .u32 xp, .int .i64 xw] := hLt
      have hle : bo + i * 5 + 5 ≤ L.length := by omega
      rw [hvv] at t34
      have g5' : m1.get i5 = .own [.string nm, .int .i64 ea, .int .i64 es, .int .u32 ep, .int .i64 ew] 36 := (o1.2 i5 hi5).trans g5
      simp -implicitDefEqProofs (disch := first | assumption | (simp only [wnA]; done) | (simp only [wnA]; omega) | omega | fail) [hil, iil, rc20_0, wkA, retV, stabOk, dC, ev, fillD, pickCells, putAt, bnd, slD, List.getElem?_cons_zero, List.getElem?_cons_succ, dR.eq_20, Mem.cell, Mem.row, wmA, t34, t36, sidx_at, hL, hLt', hle]
      refine SK_st (i := m1.next) (o := 0) (by simp [wkA, retV, stabOk, dC, ev, fillD, pickCells, putAt, bnd, slD, List.getElem?_cons_zero, List.getElem?_cons_succ, dR.eq_20]) (e := 36) (by simp -implicitDefEqProofs (disch := first | assumption | (simp only [wnA]; done) | (simp only [wnA]; omega) | omega | fail) [Mem.cell, Mem.row, wmA]; rfl) (by simp) (by simp [wkA, retV, stabOk, dC, ev, fillD, pickCells, putAt, bnd, slD, List.getElem?_cons_zero, List.getElem?_cons_succ, dR.eq_20]) (by simp [wkA, retV, stabOk, dC, ev, fillD, pickCells, putAt, bnd, slD, List.getElem?_cons_zero, List.getElem?_cons_succ, dR.eq_20, oneC]) ?_
      have ni5 : i5 ≠ m1.next := by have := o1.1; omega
      simp -implicitDefEqProofs (disch := first | assumption | (simp only [wnA]; done) | (simp only [wnA]; omega) | omega | fail) [wkA, retV, stabOk, dC, ev, fillD, pickCells, putAt, bnd, slD, List.getElem?_cons_zero, List.getElem?_cons_succ, dR.eq_20, Mem.cell, Mem.row, wmA, t5, g5', ni5]
      cases hx : (xnm.data == nm.data) with
      | true =>
        simp -implicitDefEqProofs (disch := first | assumption | (simp only [wnA]; done) | (simp only [wnA]; omega) | omega | fail) [wkA, retV, stabOk, dC, ev, fillD, pickCells, putAt, bnd, slD, List.getElem?_cons_zero, List.getElem?_cons_succ, dR.eq_20, Mem.cell, Mem.row, wmA, t4]
        exact hq1 (hmem hx) _ _ ((o1.push _).set o1.1 _) (by simp) (by simp)
      | false =>
        simp -implicitDefEqProofs (disch := first | assumption | (simp only [wnA]; done) | (simp only [wnA]; omega) | omega | fail) [wkA, retV, stabOk, dC, ev, fillD, pickCells, putAt, bnd, slD, List.getElem?_cons_zero, List.getElem?_cons_succ, dR.eq_20, Mem.cell, Mem.row, wmA, t36]
        refine hK (k - 1) _ _ (by omega) ⟨i + 1, by omega, (o1.push _).set o1.1 _, fun q hq => ?_, by simp [hiw], by rw [htk, hd]; simpa using hx⟩
        have := sm q hq
        simp only [List.mem_cons, List.not_mem_nil, or_false] at hq
        rcases hq with rfl | rfl | rfl | rfl | rfl | rfl | rfl | rfl <;> simp [this]
    · have hii : i = pre.length := by omega
      subst hii
      have iil : ¬ (pre.length : Int) < (pre.length : Int) := by omega
      rw [List.take_length] at hd
      simp -implicitDefEqProofs (disch := first | assumption | (simp only [wnA]; done) | (simp only [wnA]; omega) | omega | fail) [wkA, retV, stabOk, dC, ev, fillD, pickCells, putAt, bnd, slD, List.getElem?_cons_zero, List.getElem?_cons_succ, dR.eq_20, Mem.cell, Mem.row, wmA, iil]
      refine hq0 hd _ _ o1 fun q hq => ?_
      have := sm q (by simp only [List.mem_cons, List.not_mem_nil, or_false] at hq ⊢; omega)
      simp only [List.mem_cons, List.not_mem_nil, or_false] at hq
      rcases hq with rfl | rfl | rfl | rfl | rfl | rfl <;> simp [this]
end Go.Proofs.YtgfkjldohilmkaaDoor.Ab

set_option linter.unusedVariables false
set_option linter.unusedSimpArgs false
namespace Go.Proofs.YtgfkjldohilmkaaDoor.As
open Go Go.RowKit Go.Extern.Stop Go.Stop Go.Extern
set_option maxRecDepth 100000

set_option maxHeartbeats 4000000 in
theorem as_errno (n : Int) (t : Addr) (w W' : World) (hg : w.cell? ⟨0, 0, none⟩ = some (rt 28)) (ht : t.block < w.heap.size)
    (hst : (storeCells t [.int .i64 n]).run Tryd.prog ((laidQ w t).alloc (.cells #[.int .i64 n] 44)) = .ok () W') :
    Calls Tryd.prog 32 #[.iface 44 (.int .i64 n), .iface 82 (.pointer (some t))] w fun ev w' => ev = .returned (.bool true) ∧ w' = W' := by
  have h6 := @run_callFunc_extern Tryd.prog 43 _ (fun args => ReflectliteValue.unpack (args.getD 0 (.tuple #[]))) Tryd.func43 (by kernel_rfl) (by kernel_rfl) (by kernel_rfl) (by kernel_rfl)
  have h7 := @run_callFunc_extern Tryd.prog 44 _ (ReflectliteValue.methodAny (ReflectliteValue.valueError "reflectlite.Value.Type" 0) (fun t _ _ _ => ReflectliteType.toType t)) Tryd.func44 (by kernel_rfl) (by kernel_rfl) (by kernel_rfl) (by kernel_rfl)
  have h8 := @run_callFunc_extern Tryd.prog 45 _ (ReflectliteValue.method (ReflectliteValue.valueError "reflectlite.Value.IsNil" 0) ReflectliteValue.isNil) Tryd.func45 (by kernel_rfl) (by kernel_rfl) (by kernel_rfl) (by kernel_rfl)
  have h27 := @run_callFunc_extern Tryd.prog 98 _ (ReflectliteType.abiMethod fun t => do pure (.int .u8 (← Rtype.kind t))) Tryd.func98 (by kernel_rfl) (by kernel_rfl) (by kernel_rfl) (by kernel_rfl)
  have h37 := @run_callFunc_extern Tryd.prog 111 _ (ReflectliteType.method ReflectliteType.elem) Tryd.func111 (by kernel_rfl) (by kernel_rfl) (by kernel_rfl) (by kernel_rfl)
  have h38 := @run_callFunc_extern Tryd.prog 112 _ (ReflectliteType.relation "Implements" ReflectliteType.implements_) Tryd.func112 (by kernel_rfl) (by kernel_rfl) (by kernel_rfl) (by kernel_rfl)
  have h10 := @run_callFunc_extern Tryd.prog 59 _ ReflectliteType.typeOf Tryd.func59 (by kernel_rfl) (by kernel_rfl) (by kernel_rfl) (by kernel_rfl)
  have h35 := @run_callFunc_extern Tryd.prog 109 _ (ReflectliteType.relation "AssignableTo" ReflectliteType.assignableTo) Tryd.func109 (by kernel_rfl) (by kernel_rfl) (by kernel_rfl) (by kernel_rfl)
  have h11 := @run_callFunc_extern Tryd.prog 60 _ (ReflectliteValue.method (ReflectliteValue.valueError "reflectlite.Value.Elem" 0) ReflectliteValue.elem) Tryd.func60 (by kernel_rfl) (by kernel_rfl) (by kernel_rfl) (by kernel_rfl)
  have h12 := @run_callFunc_extern Tryd.prog 61 _ ReflectliteValue.set Tryd.func61 (by kernel_rfl) (by kernel_rfl) (by kernel_rfl) (by kernel_rfl)
  have tO := typeOfF
  have tO2 := typeOfE
  have mA := methodAssignableTo
  have a25 := assignFE
  have a26 := assignE
  have v25 := valueOfE
  have f6 := valueOfQ
  have f7 := typeQ
  have mK := methodKind
  have mE := methodElem
  have mI := methodImplements
  have k27 := kindQ
  have k25 := kindE
  have e27 := elemQ
  have i25 := implE
  have hlt : 0 < w.heap.size := by
    rcases Nat.lt_or_ge 0 w.heap.size with h | h
    · exact h
    · simp [World.cell?, Array.getElem?_eq_none h] at hg
  have n8 := isNilQ ⟨w.heap.size, 0, none⟩ t ((w.alloc (.cells #[.pointer (some t)] 82)).alloc (.cells #[hd 82, .pointer (some ⟨w.heap.size, 0, none⟩), .int .u64 150] 96)) (by simp)
  have hg2 : ((w.alloc (.cells #[.pointer (some t)] 82)).alloc (.cells #[hd 82, .pointer (some ⟨w.heap.size, 0, none⟩), .int .u64 150] 96)).cell? ⟨0, 0, none⟩ = some (rt 28) := by
    rw [World.cell?_alloc_lt _ _ ⟨0, 0, none⟩ (by first | (simp; done) | (simp; omega)), World.cell?_alloc_lt _ _ ⟨0, 0, none⟩ hlt]; exact hg
  have el := elemVQ ⟨w.heap.size, 0, none⟩ t (laidQ w t) (by unfold laidQ; rw [World.cell?_alloc_lt _ _ ⟨w.heap.size, 0, none⟩ (by simp; omega)]; simp)
  have st := setE t (w.heap.size + 1 + 1 + 1) n ((laidQ w t).alloc (.cells #[.int .i64 n] 44)) W'
    (by rw [World.cell?_alloc_at _ _ _ _ (by simp [laidQ])]; rfl) hst
  unfold laidQ at el st
  clear hst
  go_enter Tryd.func32, Tryd.ntmps32
  go_wp2
  refine wp_loop_rounds 1 ?_
  rw [rounds_succ]
  go_wp2
  go_ret
  exact ⟨rfl, rfl⟩
end Go.Proofs.YtgfkjldohilmkaaDoor.As
namespace Go.Proofs.YtgfkjldohilmkaaDoor.Ab
open Go Go.RowKit
set_option maxHeartbeats 4000000
set_option maxRecDepth 100000
theorem c_asErrno {w0 : World} {m : Mem} {i : Nat} {n : Int} {c0 : Value} {Q : Value → Mem → Prop} (hT : ErrT w0) (hg : m.get i = .own [c0] 44) (hq : Q (.bool true) (m.set i (.own [.int .i64 n] 44))) :
    AbC Tryd.prog w0 32 [.iface 44 (.int .i64 n), .iface 82 (.pointer (some ⟨i, 0, none⟩))] m Q := by
  intro G w args' hs hargs
  cases hargs with
  | cons _ v1 _ l1 h1 hargs =>
  cases hargs with
  | cons _ v2 _ l2 h2 hargs =>
  cases hargs
  have e1 : v1 = .iface 44 (.int .i64 n) := VR.plain_eq 6 _ _ rfl h1
  subst e1
  cases h2 with
  | iface _ _ v2 h2 =>
  cases h2 with
  | ptr _ _ B b S hG =>
  rw [run_callFunc_enter (by kernel_rfl)]
  show Calls _ _ _ _ _
  have hlt : B < w.heap.size := hs.lim i B b S (by rw [hg]; simp) hG
  have hbel : Below w.heap.size w ((As.laidQ w ⟨B, b + 0, none⟩).alloc (.cells #[.int .i64 n] 44)) :=
    ((((Below.refl _ w).alloc (by simp) _).alloc (by simp) _).alloc (by simp; omega) _).alloc (by simp [As.laidQ]; omega) _
  have hs4 := hs.grown hbel
  obtain ⟨w', h3, h4⟩ := snd_put (o := 0) (vs := [.int .i64 n]) (vs' := [.int .i64 n]) hs4 hG hg (by simp) (.cons _ _ _ _ (.int _ _) .nil) rfl
  refine (As.as_errno n ⟨B, b + 0, none⟩ w w' (errT_at hT hs) hlt h3).mono ?_
  rintro e w2 ⟨rfl, rfl⟩
  exact ⟨_, rfl, G, .bool true, _, Loc.le_refl G, .bool true, h4, hq⟩

def errnoV (n : Nat) : Value := if n = 0 then .nilIface else .iface 44 (.int .i64 (n : Int))
theorem c_NumberE {w0 : World} {m : Mem} {n : Nat} {Q : Value → Mem → Prop} (hT : ErrT w0) (hq : ∀ m', Old m m' → Q (.int .i64 (n : Int)) m') : AbC Tryd.prog w0 18 [errnoV n] m Q := by
  refine AbC_fn ok18 (by simp) ?_
  by_cases h0 : n = 0
  · subst h0
    have hv : errnoV 0 = .nilIface := rfl
    simp -implicitDefEqProofs (disch := first | assumption | (simp only [wnA]; done) | (simp only [wnA]; omega) | omega | fail) [rc18, ro18, wkA, retV, stabOk, dC, ev, fillD, pickCells, putAt, bnd, slD, List.getElem?_cons_zero, List.getElem?_cons_succ, dR.eq_20, Mem.cell, Mem.row, wmA, hv]
    refine AbC_fn ok32 (by simp) ?_
    simp -implicitDefEqProofs (disch := first | assumption | (simp only [wnA]; done) | (simp only [wnA]; omega) | omega | fail) [rc32, ro32, wkA, retV, stabOk, dC, ev, fillD, pickCells, putAt, bnd, slD, List.getElem?_cons_zero, List.getElem?_cons_succ, dR.eq_20, Mem.cell, Mem.row, wmA, rc18_0]
    exact hq _ ((Old.refl m).push _)
  · have hv : errnoV n = .iface 44 (.int .i64 (n : Int)) := by unfold errnoV; rw [if_neg h0]
    simp -implicitDefEqProofs (disch := first | assumption | (simp only [wnA]; done) | (simp only [wnA]; omega) | omega | fail) [rc18, ro18, wkA, retV, stabOk, dC, ev, fillD, pickCells, putAt, bnd, slD, List.getElem?_cons_zero, List.getElem?_cons_succ, dR.eq_20, Mem.cell, Mem.row, wmA, hv]
    refine c_asErrno hT (c0 := .int .i64 0) (by simp) ?_
    simp -implicitDefEqProofs (disch := first | assumption | (simp only [wnA]; done) | (simp only [wnA]; omega) | omega | fail) [wkA, retV, stabOk, dC, ev, fillD, pickCells, putAt, bnd, slD, List.getElem?_cons_zero, List.getElem?_cons_succ, dR.eq_20, Mem.cell, Mem.row, wmA]
    exact hq _ (((Old.refl m).push _).set (Nat.le_refl _) _)
end Go.Proofs.YtgfkjldohilmkaaDoor.Ab

set_option linter.unusedVariables false
set_option linter.unusedSimpArgs false
namespace Go.Proofs.YtgfkjldohilmkaaDoor.Ab
open Go Go.RowKit
set_option maxHeartbeats 4000000
set_option maxRecDepth 100000

theorem w_lap {w0 : World} {Q : AQ} {fr : Fr} {m : Mem} {i5 j : Nat} {vs : Value} {pre : List En} {e : En} (hv : SlR m 5 vs (pre.flatMap En.cells) pre.length) (vb : ∀ b, blk vs = some b → b < m.next) (hl : pre.length ≤ 1000000) (hi5 : i5 < m.next)
    (hr : ∀ x ∈ pre, rngP x) (he : rngP e)
    (g5 : m.get i5 = .own e.cells 36) (e5 : fr 5 = .pointer (some ⟨i5, 0, none⟩)) (e83 : fr 83 = vs) (e84 : fr 84 = .int .i64 (pre.length : Nat)) (e85 : fr 85 = .int .i64 0) (e4 : fr 4 = .int .i64 (j : Int))
    (hq0 : pre.any (lapB e) = false → ∀ fr' m', Old m m' → sameAt [0, 4, 5, 19, 20, 21] fr fr' → Q .normal fr' m')
    (hq1 : pre.any (lapB e) = true → ∀ fr' m', Old m m' → fr' 2 = .int .i64 (j : Int) → fr' 3 = .iface 44 (.int .i64 6) → Q .ret fr' m') : LoopW (AbW Tryd.prog w0 rc20_3) (inBlockA 4 Q) fr m := by
  obtain ⟨nm, ea, es, ep, ew⟩ := e
  have g5 : m.get i5 = .own [.string nm, .int .i64 ea, .int .i64 es, .int .u32 ep, .int .i64 ew] 36 := g5
  refine LoopW_of (fun k ts m' => ∃ i, i + k = pre.length ∧ Old m m' ∧ sameAt [0, 4, 5, 19, 20, 21, 83, 84] fr ts ∧ ts 85 = .int .i64 (i : Nat) ∧ (pre.take i).any (lapB ⟨nm, ea, es, ep, ew⟩) = false) pre.length ?_ ?_
  · exact ⟨0, by omega, Old.refl m, fun k _ => rfl, e85, rfl⟩
  · rintro k ts m1 K ⟨i, hi, o1, sm, t85, hd⟩ hK
    have t4 := (sm 4 (by simp)).trans e4
    have t5 := (sm 5 (by simp)).trans e5
    have t83 := (sm 83 (by simp)).trans e83
    have t84 := (sm 84 (by simp)).trans e84
    simp -implicitDefEqProofs (disch := first | assumption | (simp only [wnA]; done) | (simp only [wnA]; omega) | omega | fail) [rc20_3, wkA, retV, stabOk, dC, ev, fillD, pickCells, putAt, bnd, slD, List.getElem?_cons_zero, List.getElem?_cons_succ, dR_sl, Mem.cell, Mem.row, wmA, t84, t85]
    by_cases hil : i < pre.length
    · have iil : (i : Int) < (pre.length : Int) := by omega
      have hiw : IntKind.i64.wrap ((i : Int) + 1) = ((i + 1 : Nat) : Int) := by rw [w64 (by omega)]; omega
      obtain ⟨bi, bo, L, hvv, hL, hLl, hLt, -⟩ := (hv.keep fun b h => o1.2 b (vb b h)).at hil
      rw [flat_at enl pre (List.getElem?_eq_getElem hil)] at hLt
      have htk : (pre.take (i + 1)).any (lapB ⟨nm, ea, es, ep, ew⟩) = ((pre.take i).any (lapB ⟨nm, ea, es, ep, ew⟩) || lapB ⟨nm, ea, es, ep, ew⟩ pre[i]) := by
        rw [List.take_succ_eq_append_getElem hil, List.any_append]; simp
      have hmem : lapB ⟨nm, ea, es, ep, ew⟩ pre[i] = true → pre.any (lapB ⟨nm, ea, es, ep, ew⟩) = true := fun h => List.any_eq_true.2 ⟨pre[i], List.getElem_mem hil, h⟩
      have hrx := hr pre[i] (List.getElem_mem hil)
      generalize pre[i] = x at *
      obtain ⟨xnm, xa, xs, xp, xw⟩ := x
      have hLt' : (L.drop (bo + i * 5)).take 5 = [.string xnm, .int .i64 xa, .int .i64 xs, .int .u32 xp, .int .i64 xw] := hLt
      have hle : bo + i * 5 + 5 ≤ L.length := by omega
      rw [hvv] at t83
      have g5' : m1.get i5 = .own [.string nm, .int .i64 ea, .int .i64 es, .int .u32 ep, .int .i64 ew] 36 := (o1.2 i5 hi5).trans g5
      obtain ⟨x1, x2, x3, x4, -, -⟩ := hrx
      obtain ⟨y1, y2, y3, y4, -, -⟩ := he
      simp only at x1 x2 x3 x4 y1 y2 y3 y4
      have rx := room_le xs xw
      have ry := room_le es ew
      have w1 : IntKind.i64.wrap (xa + roomOf xs xw) = xa + roomOf xs xw := w64 (by omega)
      have w2 : IntKind.i64.wrap (ea + roomOf es ew) = ea + roomOf es ew := w64 (by omega)
      have hlap : lapB ⟨nm, ea, es, ep, ew⟩ ⟨xnm, xa, xs, xp, xw⟩ = (decide (ea < xa + roomOf xs xw) && decide (xa < ea + roomOf es ew)) := rfl
      simp -implicitDefEqProofs (disch := first | assumption | (simp only [wnA]; done) | (simp only [wnA]; omega) | omega | fail) [hil, iil, rc20_2, wkA, retV, stabOk, dC, ev, fillD, pickCells, putAt, bnd, slD, List.getElem?_cons_zero, List.getElem?_cons_succ, dR_sl, Mem.cell, Mem.row, wmA, t83, t85, sidx_at, hL, hLt', hle]
      refine SK_st (i := m1.next) (o := 0) (by simp [wkA, retV, stabOk, dC, ev, fillD, pickCells, putAt, bnd, slD, List.getElem?_cons_zero, List.getElem?_cons_succ, dR_sl]) (e := 36) (by simp -implicitDefEqProofs (disch := first | assumption | (simp only [wnA]; done) | (simp only [wnA]; omega) | omega | fail) [Mem.cell, Mem.row, wmA]; rfl) (by simp) (by simp [wkA, retV, stabOk, dC, ev, fillD, pickCells, putAt, bnd, slD, List.getElem?_cons_zero, List.getElem?_cons_succ, dR_sl]) (by simp [wkA, retV, stabOk, dC, ev, fillD, pickCells, putAt, bnd, slD, List.getElem?_cons_zero, List.getElem?_cons_succ, dR_sl, oneC]) ?_
      have ni5 : i5 ≠ m1.next := by have := o1.1; omega
      obtain ⟨M, hM⟩ : ∃ M, (m1.push (.own [.string ⟨#[]⟩, .int .i64 0, .int .i64 0, .int .u32 0, .int .i64 0] 36)).set m1.next (.own [.string xnm, .int .i64 xa, .int .i64 xs, .int .u32 xp, .int .i64 xw] 36) = M := ⟨_, rfl⟩
      have oM : Old m1 M := by subst hM; exact ((Old.refl m1).push _).set (Nat.le_refl _) _
      have gM : M.get m1.next = .own [.string xnm, .int .i64 xa, .int .i64 xs, .int .u32 xp, .int .i64 xw] 36 := by subst hM; rw [Mem.set_same]
      have nM : m1.next < M.next := by subst hM; simp
      have g5M := (oM.2 i5 (by have := o1.1; omega)).trans g5'
      have oMm := o1.trans oM
      simp -implicitDefEqProofs (disch := first | assumption | (simp only [wnA]; done) | (simp only [wnA]; omega) | omega | fail) [wkA, retV, stabOk, dC, ev, fillD, pickCells, putAt, bnd, slD, List.getElem?_cons_zero, List.getElem?_cons_succ, dR_sl, Mem.cell, Mem.row, wmA, hM, t5, g5M, gM]
      refine c_Room fun m3 o3 => ?_
      have g53 := (o3.2 i5 (by have := oMm.1; omega)).trans g5M
      have gM3 := (o3.2 m1.next nM).trans gM
      have o3m := oMm.trans o3
      simp -implicitDefEqProofs (disch := first | assumption | (simp only [wnA]; done) | (simp only [wnA]; omega) | omega | fail) [wkA, retV, stabOk, dC, ev, fillD, pickCells, putAt, bnd, slD, List.getElem?_cons_zero, List.getElem?_cons_succ, dR_sl, Mem.cell, Mem.row, wmA, hM, t5, g53, gM3, w1]
      have next : ∀ (ts' : Fr) (m' : Mem), Old m m' → lapB ⟨nm, ea, es, ep, ew⟩ ⟨xnm, xa, xs, xp, xw⟩ = false → (∀ q ∈ [0, 4, 5, 19, 20, 21, 83, 84], ts' q = ts q) → ts' 85 = .int .i64 ((i + 1 : Nat) : Int) → K ts' m' := fun ts' m' o' hlf hs h85 =>
        hK (k - 1) _ _ (by omega) ⟨i + 1, by omega, o', fun q hq => (hs q hq).trans (sm q hq), h85, by rw [htk, hd, hlf]; rfl⟩
      by_cases h1 : ea < xa + roomOf xs xw
      · simp -implicitDefEqProofs (disch := first | assumption | (simp only [wnA]; done) | (simp only [wnA]; omega) | omega | fail) [wkA, retV, stabOk, dC, ev, fillD, pickCells, putAt, bnd, slD, List.getElem?_cons_zero, List.getElem?_cons_succ, dR_sl, Mem.cell, Mem.row, wmA, ltT h1, t5, g53, gM3]
        refine c_Room fun m4 o4 => ?_
        have g54 := (o4.2 i5 (by have := o3m.1; omega)).trans g53
        have gM4 := (o4.2 m1.next (by have := o3.1; omega)).trans gM3
        simp -implicitDefEqProofs (disch := first | assumption | (simp only [wnA]; done) | (simp only [wnA]; omega) | omega | fail) [wkA, retV, stabOk, dC, ev, fillD, pickCells, putAt, bnd, slD, List.getElem?_cons_zero, List.getElem?_cons_succ, dR_sl, Mem.cell, Mem.row, wmA, t5, g54, gM4, w2]
        by_cases h2 : xa < ea + roomOf es ew
        · simp -implicitDefEqProofs (disch := first | assumption | (simp only [wnA]; done) | (simp only [wnA]; omega) | omega | fail) [wkA, retV, stabOk, dC, ev, fillD, pickCells, putAt, bnd, slD, List.getElem?_cons_zero, List.getElem?_cons_succ, dR_sl, Mem.cell, Mem.row, wmA, ltT h2, t4]
          exact hq1 (hmem (by rw [hlap, ltT h1, ltT h2]; rfl)) _ _ (o3m.trans o4) (by simp) (by simp)
        · have h2 : ea + roomOf es ew ≤ xa := by omega
          simp -implicitDefEqProofs (disch := first | assumption | (simp only [wnA]; done) | (simp only [wnA]; omega) | omega | fail) [wkA, retV, stabOk, dC, ev, fillD, pickCells, putAt, bnd, slD, List.getElem?_cons_zero, List.getElem?_cons_succ, dR_sl, Mem.cell, Mem.row, wmA, ltF h2, t85]
          refine next _ _ (o3m.trans o4) (by rw [hlap, ltF h2]; simp) (fun q hq => ?_) (by simp [hiw])
          simp only [List.mem_cons, List.not_mem_nil, or_false] at hq
          rcases hq with rfl | rfl | rfl | rfl | rfl | rfl | rfl | rfl <;> simp
      · have h1 : xa + roomOf xs xw ≤ ea := by omega
        simp -implicitDefEqProofs (disch := first | assumption | (simp only [wnA]; done) | (simp only [wnA]; omega) | omega | fail) [wkA, retV, stabOk, dC, ev, fillD, pickCells, putAt, bnd, slD, List.getElem?_cons_zero, List.getElem?_cons_succ, dR_sl, Mem.cell, Mem.row, wmA, ltF h1, t85]
        refine next _ _ o3m (by rw [hlap, ltF h1]; simp) (fun q hq => ?_) (by simp [hiw])
        simp only [List.mem_cons, List.not_mem_nil, or_false] at hq
        rcases hq with rfl | rfl | rfl | rfl | rfl | rfl | rfl | rfl <;> simp
    · have hii : i = pre.length := by omega
      subst hii
      have iil : ¬ (pre.length : Int) < (pre.length : Int) := by omega
      rw [List.take_length] at hd
      simp -implicitDefEqProofs (disch := first | assumption | (simp only [wnA]; done) | (simp only [wnA]; omega) | omega | fail) [wkA, retV, stabOk, dC, ev, fillD, pickCells, putAt, bnd, slD, List.getElem?_cons_zero, List.getElem?_cons_succ, dR_sl, Mem.cell, Mem.row, wmA, iil]
      refine hq0 hd _ _ o1 fun q hq => ?_
      have := sm q (by simp only [List.mem_cons, List.not_mem_nil, or_false] at hq ⊢; omega)
      simp only [List.mem_cons, List.not_mem_nil, or_false] at hq
      rcases hq with rfl | rfl | rfl | rfl | rfl | rfl <;> simp [this]

/-- Where the first wrong one is looked for from. -/
theorem chkF_step {f : Nat} {es : List En} {j : Nat} (hj : j < es.length) : chkF (f + 1) es j = if vdt (es.take j) es[j] = 0 then chkF f es (j + 1) else ((j : Int), vdt (es.take j) es[j]) := by
  simp only [chkF, List.getElem?_eq_getElem hj]
theorem rng_cases (e : En) : e.a < 0 ∨ (0 ≤ e.a ∧ e.s < 1) ∨ (0 ≤ e.a ∧ 1 ≤ e.s ∧ 8192 < e.s) ∨ (0 ≤ e.a ∧ 1 ≤ e.s ∧ e.s ≤ 8192 ∧ 16384 - roomOf e.s e.w < e.a) ∨ (0 ≤ e.a ∧ 1 ≤ e.s ∧ e.s ≤ 8192 ∧ e.a ≤ 16384 - roomOf e.s e.w ∧ e.w < 0) ∨ (0 ≤ e.a ∧ 1 ≤ e.s ∧ e.s ≤ 8192 ∧ e.a ≤ 16384 - roomOf e.s e.w ∧ 0 ≤ e.w ∧ 3 < e.w) ∨ (0 ≤ e.a ∧ 1 ≤ e.s ∧ e.s ≤ 8192 ∧ e.a ≤ 16384 - roomOf e.s e.w ∧ 0 ≤ e.w ∧ e.w ≤ 3) := by omega
theorem rngF {e : En} (h : ¬ rngP e) : rngB e = false := by
  rw [← Bool.not_eq_true, rngB_iff]; exact h
theorem vdt_cases (pre : List En) (e : En) : (nameB e.nm = false ∧ vdt pre e = 3) ∨ (nameB e.nm = true ∧ ((dupB pre e = true ∧ vdt pre e = 4) ∨ (dupB pre e = false ∧ ((rngB e = false ∧ vdt pre e = 5) ∨ (rngB e = true ∧ ((pre.any (lapB e) = true ∧ vdt pre e = 6) ∨ (pre.any (lapB e) = false ∧ vdt pre e = 0))))))) := by
  unfold vdt
  cases h1 : nameB e.nm <;> cases h2 : dupB pre e <;> cases h3 : rngB e <;> cases h4 : pre.any (lapB e) <;> simp

theorem flat_take {α : Type} {f : α → List Value} {k : Nat} (hf : ∀ x, (f x).length = k) : ∀ (l : List α) (j : Nat), (l.flatMap f).take (j * k) = (l.take j).flatMap f
  | l, 0 => by simp
  | [], j + 1 => by simp
  | x :: l, j + 1 => by
    rw [List.flatMap_cons, List.take_succ_cons, List.flatMap_cons, ← flat_take hf l j, List.take_append, List.take_of_length_le (by rw [hf, Nat.add_mul]; omega), hf]
    congr 2
    rw [Nat.add_mul]; omega

theorem c_Check {w0 : World} {m : Mem} {v : Value} {es : List En} {Q : Value → Mem → Prop} (hv : SlR m 5 v (es.flatMap En.cells) es.length) (vb : ∀ b, blk v = some b → b < m.next) (he : ∀ e ∈ es, EnI e) (hn : es.length ≤ 9223372036854775807)
    (hq : ∀ m', Old m m' → Q (.tuple ⟨[.int .i64 (chkV es).1, errnoV (chkV es).2]⟩) m') : AbC Tryd.prog w0 20 [v] m Q := by
  refine AbC_fn ok20 (by simp) ?_
  simp -implicitDefEqProofs (disch := first | assumption | (simp only [wnA]; done) | (simp only [wnA]; omega) | omega | fail) [rc20, ro20, wkA, retV, stabOk, dC, ev, fillD, pickCells, putAt, bnd, slD, List.getElem?_cons_zero, List.getElem?_cons_succ, dR_sl, Mem.cell, Mem.row, wmA, hv.slen]
  by_cases h0 : es.length = 0
  · have hc : chkV es = (-1, 7) := by unfold chkV; rw [if_pos (.inl h0)]
    rw [hc] at hq
    have i0 : (es.length : Int) = 0 := by omega
    simp -implicitDefEqProofs (disch := first | assumption | (simp only [wnA]; done) | (simp only [wnA]; omega) | omega | fail) [wkA, retV, stabOk, dC, ev, fillD, pickCells, putAt, bnd, slD, List.getElem?_cons_zero, List.getElem?_cons_succ, dR_sl, Mem.cell, Mem.row, wmA, i0, hv.slen]
    exact hq m (Old.refl m)
  · have i0 : ¬ (es.length : Int) = 0 := by omega
    by_cases h8 : 8 < es.length
    · have hc : chkV es = (-1, 7) := by unfold chkV; rw [if_pos (.inr h8)]
      rw [hc] at hq
      have i8 : (8 : Int) < (es.length : Int) := by omega
      simp -implicitDefEqProofs (disch := first | assumption | (simp only [wnA]; done) | (simp only [wnA]; omega) | omega | fail) [wkA, retV, stabOk, dC, ev, fillD, pickCells, putAt, bnd, slD, List.getElem?_cons_zero, List.getElem?_cons_succ, dR_sl, Mem.cell, Mem.row, wmA, beqF i0, gtT i8, hv.slen]
      exact hq m (Old.refl m)
    · have hc : chkV es = chkF es.length es 0 := by unfold chkV; rw [if_neg (by omega)]
      rw [hc] at hq
      have i8 : (es.length : Int) ≤ 8 := by omega
      simp -implicitDefEqProofs (disch := first | assumption | (simp only [wnA]; done) | (simp only [wnA]; omega) | omega | fail) [wkA, retV, stabOk, dC, ev, fillD, pickCells, putAt, bnd, slD, List.getElem?_cons_zero, List.getElem?_cons_succ, dR_sl, Mem.cell, Mem.row, wmA, beqF i0, gtF i8, hv.slen, rc20_10]
      refine LoopW_of (fun k ts m' => ∃ j, j + k = es.length ∧ Old m m' ∧ ts 0 = v ∧ ts 19 = v ∧ ts 20 = .int .i64 (es.length : Nat) ∧ ts 21 = .int .i64 (j : Nat) ∧ chkF k es j = chkF es.length es 0 ∧ (∀ x ∈ es.take j, rngP x)) es.length ?_ ?_
      · exact ⟨0, by omega, Old.refl m, by simp [frA_at], by simp [frA_at], by simp, by simp, rfl, fun x hx => by simp at hx⟩
      · rintro k ts m1 K ⟨j, hj, o1, t0, t19, t20, t21, hck, hpre⟩ hK
        simp -implicitDefEqProofs (disch := first | assumption | (simp only [wnA]; done) | (simp only [wnA]; omega) | omega | fail) [rc20_8, wkA, retV, stabOk, dC, ev, fillD, pickCells, putAt, bnd, slD, List.getElem?_cons_zero, List.getElem?_cons_succ, dR_sl, Mem.cell, Mem.row, wmA, t20, t21]
        by_cases hjl : j < es.length
        · have ijl : (j : Int) < (es.length : Int) := by omega
          have hjw : IntKind.i64.wrap ((j : Int) + 1) = ((j + 1 : Nat) : Int) := by rw [w64 (by omega)]; omega
          have hv1 := hv.keep fun b h => o1.2 b (vb b h)
          obtain ⟨bi, bo, L, hvv, hL, hLl, hLt, -⟩ := hv1.at hjl
          rw [flat_at enl es (List.getElem?_eq_getElem hjl)] at hLt
          obtain ⟨k, rfl⟩ : ∃ k', k = k' + 1 := ⟨k - 1, by omega⟩
          rw [chkF_step hjl] at hck
          have hei := he es[j] (List.getElem_mem hjl)
          have hpre' : rngB es[j] = true → ∀ x ∈ es.take (j + 1), rngP x := fun hb x hx => by
            rw [List.take_succ_eq_append_getElem hjl] at hx
            rcases List.mem_append.1 hx with hx | hx
            · exact hpre x hx
            · simp at hx; subst hx; exact rngB_iff.1 hb
          obtain ⟨pre, hpr⟩ : ∃ pre, es.take j = pre := ⟨_, rfl⟩
          have hpl : pre.length = j := by rw [← hpr, List.length_take]; omega
          have hsl := hv.upto (k := j) (by omega)
          rw [show (es.flatMap En.cells).take (j * 5) = pre.flatMap En.cells from by rw [← hpr]; exact flat_take enl es j] at hsl
          obtain ⟨vs, hvs, hvr, hvb⟩ := hsl
          rw [hpr] at hck hpre
          have vd := vdt_cases pre es[j]
          generalize es[j] = e at *
          obtain ⟨nm, ea, es', ep, ew⟩ := e
          have hLt' : (L.drop (bo + j * 5)).take 5 = [.string nm, .int .i64 ea, .int .i64 es', .int .u32 ep, .int .i64 ew] := hLt
          have hle : bo + j * 5 + 5 ≤ L.length := by omega
          have t19' := t19
          rw [hvv] at t19'
          simp -implicitDefEqProofs (disch := first | assumption | (simp only [wnA]; done) | (simp only [wnA]; omega) | omega | fail) [hjl, ijl, rc20_7, wkA, retV, stabOk, dC, ev, fillD, pickCells, putAt, bnd, slD, List.getElem?_cons_zero, List.getElem?_cons_succ, dR_sl, Mem.cell, Mem.row, wmA, t19', t21, sidx_at, hL, hLt', hle]
          refine SK_st (i := m1.next) (o := 0) (by simp [wkA, retV, stabOk, dC, ev, fillD, pickCells, putAt, bnd, slD, List.getElem?_cons_zero, List.getElem?_cons_succ, dR_sl]) (e := 36) (by simp -implicitDefEqProofs (disch := first | assumption | (simp only [wnA]; done) | (simp only [wnA]; omega) | omega | fail) [Mem.cell, Mem.row, wmA]; rfl) (by simp) (by simp [wkA, retV, stabOk, dC, ev, fillD, pickCells, putAt, bnd, slD, List.getElem?_cons_zero, List.getElem?_cons_succ, dR_sl]) (by simp [wkA, retV, stabOk, dC, ev, fillD, pickCells, putAt, bnd, slD, List.getElem?_cons_zero, List.getElem?_cons_succ, dR_sl, oneC]) ?_
          obtain ⟨M, hM⟩ : ∃ M, (m1.push (.own [.string ⟨#[]⟩, .int .i64 0, .int .i64 0, .int .u32 0, .int .i64 0] 36)).set m1.next (.own [.string nm, .int .i64 ea, .int .i64 es', .int .u32 ep, .int .i64 ew] 36) = M := ⟨_, rfl⟩
          have oM : Old m1 M := by subst hM; exact ((Old.refl m1).push _).set (Nat.le_refl _) _
          have gM : M.get m1.next = .own [.string nm, .int .i64 ea, .int .i64 es', .int .u32 ep, .int .i64 ew] 36 := by subst hM; rw [Mem.set_same]
          have nM : m1.next < M.next := by subst hM; simp
          have oMm := o1.trans oM
          simp -implicitDefEqProofs (disch := first | assumption | (simp only [wnA]; done) | (simp only [wnA]; omega) | omega | fail) [wkA, retV, stabOk, dC, ev, fillD, pickCells, putAt, bnd, slD, List.getElem?_cons_zero, List.getElem?_cons_succ, dR_sl, Mem.cell, Mem.row, wmA, hM, gM]
          refine c_Name hei.1 ?_
          rcases vd with ⟨n1, hvd⟩ | ⟨n1, vd⟩
          · have n1 : nameB nm = false := n1
            rw [hvd] at hck
            have hck : ((j : Int), 3) = chkF es.length es 0 := hck
            rw [← hck] at hq
            simp -implicitDefEqProofs (disch := first | assumption | (simp only [wnA]; done) | (simp only [wnA]; omega) | omega | fail) [wkA, retV, stabOk, dC, ev, fillD, pickCells, putAt, bnd, slD, List.getElem?_cons_zero, List.getElem?_cons_succ, dR_sl, Mem.cell, Mem.row, wmA, n1]
            exact hq M oMm
          · have n1 : nameB nm = true := n1
            simp -implicitDefEqProofs (disch := first | assumption | (simp only [wnA]; done) | (simp only [wnA]; omega) | omega | fail) [wkA, retV, stabOk, dC, ev, fillD, pickCells, putAt, bnd, slD, List.getElem?_cons_zero, List.getElem?_cons_succ, dR_sl, Mem.cell, Mem.row, wmA, n1, rc20_6, t0, hvs, hvr.slen]
            have hvM : SlR M 5 vs (pre.flatMap En.cells) pre.length := by rw [hpl]; exact hvr.keep fun b h => oMm.2 b (vb b (hvb b h))
            have vbM : ∀ b, blk vs = some b → b < M.next := fun b h => Nat.lt_of_lt_of_le (vb b (hvb b h)) oMm.1
            have hq1 : ∀ (n : Nat), vdt pre ⟨nm, ea, es', ep, ew⟩ = n + 1 → ∀ m', Old m m' → Q (.tuple ⟨[.int .i64 (j : Int), .iface 44 (.int .i64 ((n + 1 : Nat) : Int))]⟩) m' := fun n hn m' o' => by
              rw [hn] at hck
              have hck : ((j : Int), n + 1) = chkF es.length es 0 := hck
              rw [← hck] at hq
              exact hq m' o'
            refine w_dup (i5 := m1.next) (j := j) (vs := vs) (pre := pre) (e := ⟨nm, ea, es', ep, ew⟩) hvM vbM (by omega) nM gM (by simp) (by simp) (by simp [hpl]) (by simp) (by simp) (fun hd fr' m' o' hs => ?_) fun hd fr' m' o' h2 h3 => ?_
            · have f0 := (hs 0 (by simp)).trans (by simp [t0] : _ = v)
              have f4 := (hs 4 (by simp)).trans (by simp : _ = .int .i64 (j : Int))
              have f5 := (hs 5 (by simp)).trans (by simp : _ = .pointer (some ⟨m1.next, 0, none⟩))
              have f19 := (hs 19 (by simp)).trans (by simp [t19] : _ = v)
              have f20 := (hs 20 (by simp)).trans (by simp [t20] : _ = .int .i64 (es.length : Nat))
              have f21 := (hs 21 (by simp)).trans (by simp [t21] : _ = .int .i64 (j : Nat))
              have vd : (rngB ⟨nm, ea, es', ep, ew⟩ = false ∧ vdt pre ⟨nm, ea, es', ep, ew⟩ = 5) ∨ (rngB ⟨nm, ea, es', ep, ew⟩ = true ∧ ((pre.any (lapB ⟨nm, ea, es', ep, ew⟩) = true ∧ vdt pre ⟨nm, ea, es', ep, ew⟩ = 6) ∨ (pre.any (lapB ⟨nm, ea, es', ep, ew⟩) = false ∧ vdt pre ⟨nm, ea, es', ep, ew⟩ = 0))) := by
                rcases vd with ⟨h, -⟩ | ⟨-, h⟩
                · rw [hd] at h; cases h
                · exact h
              have g5 := (o'.2 m1.next nM).trans gM
              have o2 := oMm.trans o'
              have nM' : m1.next < m'.next := Nat.lt_of_lt_of_le nM o'.1
              have rr := room_le es' ew
              have wr : IntKind.i64.wrap (16384 - roomOf es' ew) = 16384 - roomOf es' ew := w64 (by omega)
              have bad : ¬ rngP ⟨nm, ea, es', ep, ew⟩ → vdt pre ⟨nm, ea, es', ep, ew⟩ = 4 + 1 := fun h => by
                rcases vd with ⟨-, h1⟩ | ⟨h1, -⟩
                · exact h1
                · exact absurd (rngB_iff.1 h1) h
              have rc := rng_cases ⟨nm, ea, es', ep, ew⟩
              simp only at rc
              rcases rc with h | ⟨h, h'⟩ | ⟨h, h', h2⟩ | ⟨h, h', h2, h3⟩ | ⟨h, h', h2, h3, h4⟩ | ⟨h, h', h2, h3, h4, h9⟩ | ⟨h, h', h2, h3, h4, h9⟩
              · have hb := bad fun hp => by have := hp.1; simp only at this; omega
                simp -implicitDefEqProofs (disch := first | assumption | (simp only [wnA]; done) | (simp only [wnA]; omega) | omega | fail) [rc20_5, wkA, retV, stabOk, dC, ev, fillD, pickCells, putAt, bnd, slD, List.getElem?_cons_zero, List.getElem?_cons_succ, dR_sl, Mem.cell, Mem.row, wmA, f5, g5, f4, ltT h]
                exact hq1 4 hb _ o2
              · have hb := bad fun hp => by have := hp.2.1; simp only at this; omega
                simp -implicitDefEqProofs (disch := first | assumption | (simp only [wnA]; done) | (simp only [wnA]; omega) | omega | fail) [rc20_5, wkA, retV, stabOk, dC, ev, fillD, pickCells, putAt, bnd, slD, List.getElem?_cons_zero, List.getElem?_cons_succ, dR_sl, Mem.cell, Mem.row, wmA, f5, g5, f4, ltF h, ltT h']
                exact hq1 4 hb _ o2
              · have hb := bad fun hp => by have := hp.2.2.1; simp only at this; omega
                simp -implicitDefEqProofs (disch := first | assumption | (simp only [wnA]; done) | (simp only [wnA]; omega) | omega | fail) [rc20_5, wkA, retV, stabOk, dC, ev, fillD, pickCells, putAt, bnd, slD, List.getElem?_cons_zero, List.getElem?_cons_succ, dR_sl, Mem.cell, Mem.row, wmA, f5, g5, f4, ltF h, ltF h', gtT h2]
                exact hq1 4 hb _ o2
              all_goals simp -implicitDefEqProofs (disch := first | assumption | (simp only [wnA]; done) | (simp only [wnA]; omega) | omega | fail) [rc20_5, wkA, retV, stabOk, dC, ev, fillD, pickCells, putAt, bnd, slD, List.getElem?_cons_zero, List.getElem?_cons_succ, dR_sl, Mem.cell, Mem.row, wmA, f5, g5, f4, ltF h, ltF h', gtF h2]
              all_goals refine c_Room fun m3 o3 => ?_
              all_goals have g53 := (o3.2 m1.next nM').trans g5
              all_goals have o3m := o2.trans o3
              · have hb := bad fun hp => by have := hp.2.2.2.1; simp only at this; omega
                simp -implicitDefEqProofs (disch := first | assumption | (simp only [wnA]; done) | (simp only [wnA]; omega) | omega | fail) [wkA, retV, stabOk, dC, ev, fillD, pickCells, putAt, bnd, slD, List.getElem?_cons_zero, List.getElem?_cons_succ, dR_sl, Mem.cell, Mem.row, wmA, f5, g53, f4, wr, gtT h3]
                exact hq1 4 hb _ o3m
              · have hb := bad fun hp => by have := hp.2.2.2.2.1; simp only at this; omega
                simp -implicitDefEqProofs (disch := first | assumption | (simp only [wnA]; done) | (simp only [wnA]; omega) | omega | fail) [wkA, retV, stabOk, dC, ev, fillD, pickCells, putAt, bnd, slD, List.getElem?_cons_zero, List.getElem?_cons_succ, dR_sl, Mem.cell, Mem.row, wmA, f5, g53, f4, wr, gtF h3, ltT h4]
                exact hq1 4 hb _ o3m
              · have hb := bad fun hp => by have := hp.2.2.2.2.2; simp only at this; omega
                simp -implicitDefEqProofs (disch := first | assumption | (simp only [wnA]; done) | (simp only [wnA]; omega) | omega | fail) [wkA, retV, stabOk, dC, ev, fillD, pickCells, putAt, bnd, slD, List.getElem?_cons_zero, List.getElem?_cons_succ, dR_sl, Mem.cell, Mem.row, wmA, f5, g53, f4, wr, gtF h3, ltF h4, gtT h9]
                exact hq1 4 hb _ o3m
              · have hrp : rngP ⟨nm, ea, es', ep, ew⟩ := ⟨h, h', h2, by show ea + roomOf es' ew ≤ 16384; omega, h4, h9⟩
                have hrb := rngB_iff.2 hrp
                have vd : (pre.any (lapB ⟨nm, ea, es', ep, ew⟩) = true ∧ vdt pre ⟨nm, ea, es', ep, ew⟩ = 6) ∨ (pre.any (lapB ⟨nm, ea, es', ep, ew⟩) = false ∧ vdt pre ⟨nm, ea, es', ep, ew⟩ = 0) := by
                  rcases vd with ⟨h, -⟩ | ⟨-, h⟩
                  · rw [hrb] at h; cases h
                  · exact h
                simp -implicitDefEqProofs (disch := first | assumption | (simp only [wnA]; done) | (simp only [wnA]; omega) | omega | fail) [wkA, retV, stabOk, dC, ev, fillD, pickCells, putAt, bnd, slD, List.getElem?_cons_zero, List.getElem?_cons_succ, dR_sl, Mem.cell, Mem.row, wmA, f5, g53, f4, wr, gtF h3, ltF h4, gtF h9, rc20_4, f0, hvs, hvr.slen]
                have hv3 : SlR m3 5 vs (pre.flatMap En.cells) pre.length := hvM.keep fun b h => by rw [o3.2 b (Nat.lt_of_lt_of_le (vbM b h) o'.1), o'.2 b (vbM b h)]
                refine w_lap (i5 := m1.next) (j := j) (vs := vs) (pre := pre) (e := ⟨nm, ea, es', ep, ew⟩) hv3 (fun b h => Nat.lt_of_lt_of_le (vbM b h) (Nat.le_trans o'.1 o3.1)) (by omega) (Nat.lt_of_lt_of_le nM' o3.1) hpre hrp g53 (by simp [f5]) (by simp) (by simp [hpl]) (by simp) (by simp [f4]) (fun hl fr2 m4 o4 hs2 => ?_) fun hl fr2 m4 o4 h2 h3 => ?_
                · have hv0 : vdt pre ⟨nm, ea, es', ep, ew⟩ = 0 := by
                    rcases vd with ⟨h, -⟩ | ⟨-, h⟩
                    · rw [hl] at h; cases h
                    · exact h
                  rw [if_pos hv0] at hck
                  have f0' := (hs2 0 (by simp)).trans (by simp [f0] : _ = v)
                  have f19' := (hs2 19 (by simp)).trans (by simp [f19] : _ = v)
                  have f20' := (hs2 20 (by simp)).trans (by simp [f20] : _ = .int .i64 (es.length : Nat))
                  have f21' := (hs2 21 (by simp)).trans (by simp [f21] : _ = .int .i64 (j : Nat))
                  simp -implicitDefEqProofs (disch := first | assumption | (simp only [wnA]; done) | (simp only [wnA]; omega) | omega | fail) [wkA, retV, stabOk, dC, ev, fillD, pickCells, putAt, bnd, slD, List.getElem?_cons_zero, List.getElem?_cons_succ, dR_sl, Mem.cell, Mem.row, wmA, f21']
                  exact hK k _ m4 (by omega) ⟨j + 1, by omega, o3m.trans o4, by simp [f0'], by simp [f19'], by simp [f20'], by simp [hjw], hck, hpre' hrb⟩
                · have hv6 : vdt pre ⟨nm, ea, es', ep, ew⟩ = 5 + 1 := by
                    rcases vd with ⟨-, h⟩ | ⟨h, -⟩
                    · exact h
                    · rw [hl] at h; cases h
                  simp -implicitDefEqProofs (disch := first | assumption | (simp only [wnA]; done) | (simp only [wnA]; omega) | omega | fail) [wkA, retV, stabOk, dC, ev, fillD, pickCells, putAt, bnd, slD, List.getElem?_cons_zero, List.getElem?_cons_succ, dR_sl, Mem.cell, Mem.row, wmA, h2, h3]
                  exact hq1 5 hv6 _ (o3m.trans o4)
            · have hv4 : vdt pre ⟨nm, ea, es', ep, ew⟩ = 3 + 1 := by
                rcases vd with ⟨-, h⟩ | ⟨h, -⟩
                · exact h
                · rw [hd] at h; cases h
              simp -implicitDefEqProofs (disch := first | assumption | (simp only [wnA]; done) | (simp only [wnA]; omega) | omega | fail) [wkA, retV, stabOk, dC, ev, fillD, pickCells, putAt, bnd, slD, List.getElem?_cons_zero, List.getElem?_cons_succ, dR_sl, Mem.cell, Mem.row, wmA, h2, h3]
              exact hq1 3 hv4 _ (oMm.trans o')
        · have hjj : j = es.length := by omega
          subst hjj
          have ijl : ¬ (es.length : Int) < (es.length : Int) := by omega
          have hz : chkF k es es.length = (0, 0) := by
            cases k with
            | zero => rfl
            | succ k => simp only [chkF, List.getElem?_eq_none (Nat.le_refl _)]
          rw [hz] at hck
          rw [← hck] at hq
          simp -implicitDefEqProofs (disch := first | assumption | (simp only [wnA]; done) | (simp only [wnA]; omega) | omega | fail) [wkA, retV, stabOk, dC, ev, fillD, pickCells, putAt, bnd, slD, List.getElem?_cons_zero, List.getElem?_cons_succ, dR_sl, Mem.cell, Mem.row, wmA, ijl, rc20_9]
          exact hq m1 o1
end Go.Proofs.YtgfkjldohilmkaaDoor.Ab
