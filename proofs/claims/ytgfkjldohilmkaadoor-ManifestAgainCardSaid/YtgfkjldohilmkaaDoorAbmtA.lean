/- What follows of a text's tokens: numbers, places, two texts with a line feed between (plain law; no program). -/
import Derived.Test.YtgfkjldohilmkaaDoorAbz
import Derived.Test.YtgfkjldohilmkaaDoorAbtkAm
import Derived.Test.YtgfkjldohilmkaaDoorAbmt1
set_option linter.unusedVariables false
set_option linter.unusedSimpArgs false
namespace Go.Proofs.YtgfkjldohilmkaaDoor.Ab
open Go Go.RowKit

/-! Numbers. -/
theorem inB_digC16 : ∀ d : Fin 16, inB 16 (digC d.val) = true := by decide +kernel
theorem inB_digC10 : ∀ d : Fin 10, inB 10 (digC d.val) = true := by decide +kernel
theorem digs_all {B : Nat} {p : UInt8 → Bool} (hB : 2 ≤ B) (h : ∀ d, d < B → p (digC d) = true) : ∀ n, ∀ c ∈ digs B n, p c = true := by
  intro n
  induction n using Nat.strongRecOn with
  | _ n ih =>
    intro c hc
    by_cases hn : n < B
    · rw [digs_lt hn] at hc
      simp at hc; subst hc
      exact h n hn
    · have h1 : n / B < n := Nat.div_lt_self (by omega) (by omega)
      rw [digs_ge (by omega) (by omega), List.mem_append] at hc
      rcases hc with hc | hc
      · exact ih _ h1 c hc
      · simp at hc; subst hc
        exact h _ (Nat.mod_lt _ (by omega))
theorem digs10_all (n : Nat) : ∀ c ∈ digs 10 n, isDig c = true := by
  intro c hc
  have := digs_all (B := 10) (p := inB 10) (by omega) (fun d hd => inB_digC10 ⟨d, hd⟩) n c hc
  simpa [inB] using this
theorem digs16_all (n : Nat) : ∀ c ∈ digs 16 n, inB 16 c = true := digs_all (B := 16) (p := inB 16) (by omega) (fun d hd => inB_digC16 ⟨d, hd⟩) n
theorem runN_all {p : UInt8 → Bool} : ∀ {l : List UInt8}, (∀ c ∈ l, p c = true) → runN p l = l.length
  | [], _ => rfl
  | c :: l, h => by
    simp only [runN, h c (by simp), if_true, List.length_cons]
    rw [runN_all fun c hc => h c (by simp [hc])]
theorem digC_48 : ∀ d : Fin 36, d.val ≠ 0 → digC d.val ≠ 48 := by decide +kernel
theorem digs_first {B : Nat} (hB : 2 ≤ B ∧ B ≤ 36) : ∀ n, 1 ≤ n → ∃ c r, digs B n = c :: r ∧ c ≠ 48 := by
  intro n
  induction n using Nat.strongRecOn with
  | _ n ih =>
    intro hn
    by_cases h : n < B
    · exact ⟨_, [], digs_lt h, digC_48 ⟨n, by omega⟩ (by simp; omega)⟩
    · have h1 : n / B < n := Nat.div_lt_self (by omega) (by omega)
      have h2 : 1 ≤ n / B := (Nat.one_le_div_iff (by omega)).2 (by omega)
      obtain ⟨c, r, e, hc⟩ := ih _ h1 h2
      exact ⟨c, r ++ [digC (n % B)], by rw [digs_ge (by omega) (by omega), e]; rfl, hc⟩
theorem dig_facts {c : UInt8} (h : isDig c = true) : isLet c = false ∧ isBl c = false ∧ c.toNat ≠ 35 ∧ c.toNat ≠ 120 := by
  simp only [isDig, Bool.and_eq_true, decide_eq_true_eq] at h
  refine ⟨?_, ?_, by omega, by omega⟩
  · simp only [isLet, Bool.and_eq_false_iff, decide_eq_false_iff_not]; omega
  · simp only [isBl, Bool.or_eq_false_iff, beq_eq_false_iff_ne]; omega
theorem hexH_dig {l : List UInt8} (h : ∀ c ∈ l, isDig c = true) : hexH l = false := by
  match l, h with
  | [], _ => rfl
  | [_], _ => rfl
  | a :: b :: r, h =>
    have := (dig_facts (h b (by simp))).2.2.2
    simp [hexH, this]
/-- A text of digits. -/
theorem dig_shape {l : List UInt8} (h : ∀ c ∈ l, isDig c = true) : nB l = 10 ∧ nF l = 0 ∧ nN l = l.length ∧ nDs l = l := by
  have hh := hexH_dig h
  have hB : nB l = 10 := by simp [nB, hh]
  have hF : nF l = 0 := by simp [nF, hh]
  have hN : nN l = l.length := by
    unfold nN
    rw [hB, hF, Nat.zero_add, List.drop_zero]
    exact runN_all fun c hc => by simp [inB, h c hc]
  refine ⟨hB, hF, hN, ?_⟩
  unfold nDs
  rw [hN, hF, List.drop_zero, List.take_length]
theorem hex_shape {ds : List UInt8} (h : ∀ c ∈ ds, inB 16 c = true) : nB (48 :: 120 :: ds) = 16 ∧ nF (48 :: 120 :: ds) = 2 ∧ nN (48 :: 120 :: ds) = ds.length + 2 ∧ nDs (48 :: 120 :: ds) = ds := by
  have hh : hexH (48 :: 120 :: ds) = true := rfl
  have hB : nB (48 :: 120 :: ds) = 16 := by simp [nB, hh]
  have hF : nF (48 :: 120 :: ds) = 2 := by simp [nF, hh]
  have hN : nN (48 :: 120 :: ds) = ds.length + 2 := by
    unfold nN
    rw [hB, hF]
    show 2 + runN (inB 16) ds = _
    rw [runN_all h]; omega
  refine ⟨hB, hF, hN, ?_⟩
  unfold nDs
  rw [hN, hF]
  show (48 :: 120 :: ds.take ds.length).drop 2 = ds
  simp
theorem cut_one {c : UInt8} {r : List UInt8} {v : Nat} (hd : isDig c = true) (hv : numV (c :: r) = some v) (hN : nN (c :: r) = (c :: r).length) : cutL 0 (c :: r) = .inr [(⟨2, c :: r, (v : Nat)⟩, 0), (endT, (c :: r).length)] := by
  obtain ⟨h1, h2, h3, -⟩ := dig_facts hd
  have ho : oneL (c :: r) = some ((⟨2, c :: r, ((v : Nat) : Int)⟩ : Tk), (c :: r).length) := by
    simp only [oneL, h1, hd, if_true, Bool.false_eq_true, if_false, hv, hN, Option.map_some, List.take_length]
  rw [cutL_some h2 h3 ho, Nat.zero_add, List.drop_length, cutL_nil]
  rfl
theorem cut_no {c : UInt8} {r : List UInt8} (hd : isDig c = true) (hv : numV (c :: r) = none) : cutL 0 (c :: r) = .inl 0 := by
  obtain ⟨h1, h2, h3, -⟩ := dig_facts hd
  have ho : oneL (c :: r) = none := by
    simp only [oneL, h1, hd, if_true, Bool.false_eq_true, if_false, hv, Option.map_none]
  exact cutL_none h2 h3 ho
theorem digs_cons (B n : Nat) : ∃ c r, digs B n = c :: r := by
  have := digs_pos B n
  match h : digs B n with
  | [] => rw [h] at this; simp at this
  | c :: r => exact ⟨c, r, rfl⟩
theorem cut_dec {n : Nat} (hn : n ≤ 4294967295) : cutL 0 (digs 10 n) = .inr [(⟨2, digs 10 n, (n : Nat)⟩, 0), (endT, (digs 10 n).length)] := by
  have hall := digs10_all n
  obtain ⟨hB, hF, hN, hD⟩ := dig_shape hall
  have hv : numV (digs 10 n) = some n := by
    unfold numV
    rw [hB, hD, puL_digs (by omega) n hn]
    simp [hN, wordN]
  obtain ⟨c, r, e⟩ := digs_cons 10 n
  rw [e] at hv hN hall ⊢
  exact cut_one (hall c (by simp)) hv hN
theorem cut_hex {n : Nat} (hn : n ≤ 4294967295) : cutL 0 (48 :: 120 :: digs 16 n) = .inr [(⟨2, 48 :: 120 :: digs 16 n, (n : Nat)⟩, 0), (endT, (48 :: 120 :: digs 16 n).length)] := by
  obtain ⟨hB, hF, hN, hD⟩ := hex_shape (digs16_all n)
  have hv : numV (48 :: 120 :: digs 16 n) = some n := by
    unfold numV
    rw [hB, hD, puL_digs (by omega) n hn]
    simp [hN, wordN]
  exact cut_one rfl hv hN
theorem puL_big {B M : Nat} (hB : 2 ≤ B ∧ B ≤ 36) {n : Nat} (hn : M < n) : puL B M 0 (digs B n) = none := by
  cases h : puL B M 0 (digs B n) with
  | none => rfl
  | some v =>
    exfalso
    have key : ∀ (l : List UInt8) (a v M' : Nat), puL B M a l = some v → M ≤ M' → puL B M' a l = some v := by
      intro l
      induction l with
      | nil => intro a v M' h _; exact h
      | cons c l ih =>
        intro a v M' h hM
        simp only [puL] at h ⊢
        split at h
        · rename_i n' hs
          have : puStep B M' a c = some n' := by
            unfold puStep at hs ⊢
            split at hs
            · split at hs
              · rename_i hc
                rw [if_pos ⟨hc.1, by omega⟩]; exact hs
              · cases hs
            · cases hs
          rw [this]
          exact ih _ _ _ h hM
        · cases h
    have h2 := key _ _ _ n h (by omega)
    rw [puL_digs hB n (Nat.le_refl _)] at h2
    have hvM : v ≤ M := by
      have le : ∀ (l : List UInt8) (a v : Nat), a ≤ M → puL B M a l = some v → v ≤ M := by
        intro l
        induction l with
        | nil => intro a v h e; simp [puL] at e; omega
        | cons c l ih =>
          intro a v h e
          simp only [puL] at e
          split at e
          · rename_i n' hs
            refine ih n' v ?_ e
            unfold puStep at hs
            split at hs
            · split at hs
              · simp at hs; omega
              · cases hs
            · cases hs
          · cases e
      exact le _ 0 v (by omega) h
    have := Option.some.inj h2
    omega
theorem cut_big {n : Nat} (hn : 4294967295 < n) : cutL 0 (48 :: 120 :: digs 16 n) = .inl 0 := by
  obtain ⟨hB, hF, hN, hD⟩ := hex_shape (digs16_all n)
  have hv : numV (48 :: 120 :: digs 16 n) = none := by
    unfold numV
    rw [hB, hD, puL_big (by omega) hn]
  exact cut_no rfl hv
theorem cut_zero (n : Nat) : cutL 0 (48 :: digs 10 n) = .inl 0 := by
  have hall : ∀ c ∈ 48 :: digs 10 n, isDig c = true := fun c hc => by
    rcases List.mem_cons.1 hc with rfl | hc
    · rfl
    · exact digs10_all n c hc
  obtain ⟨hB, hF, hN, hD⟩ := dig_shape hall
  have hv : numV (48 :: digs 10 n) = none := by
    unfold numV
    rw [hB, hD]
    split
    · rename_i v h
      rw [if_neg]
      rintro ⟨h1, -⟩
      rcases Nat.eq_zero_or_pos v with rfl | hp
      · have h0 : digs 10 0 = [48] := by decide +kernel
        rw [h0] at h1
        have := digs_pos 10 n
        simp only [List.cons.injEq, true_and] at h1
        rw [← h1] at this
        simp at this
      · obtain ⟨c, r, e, hc⟩ := digs_first (B := 10) (by omega) v hp
        rw [e] at h1
        simp only [List.cons.injEq] at h1
        exact hc h1.1
    · rfl
  exact cut_no rfl hv
end Go.Proofs.YtgfkjldohilmkaaDoor.Ab
/- What follows of a text's tokens: where they stand; two texts with a line feed between (plain law; no program). -/
set_option linter.unusedVariables false
set_option linter.unusedSimpArgs false
namespace Go.Proofs.YtgfkjldohilmkaaDoor.Ab
open Go Go.RowKit

/-! Places. -/
def PlL (L : List UInt8) : Int → List (Tk × Nat) → Prop
  | _, [] => True
  | pr, p :: us => (p.1.kd ≠ 0 → pr < (p.2 : Int)) ∧ pr ≤ (p.2 : Int) ∧ p.2 ≤ L.length ∧ (p.1.kd ≠ 3 → p.2 + p.1.tx.length ≤ L.length ∧ (L.drop p.2).take p.1.tx.length = p.1.tx) ∧ PlL L (p.2 : Int) us
theorem oneL_text {l : List UInt8} {t : Tk} {n : Nat} (h : oneL l = some (t, n)) : t.kd ≠ 0 ∧ (t.kd ≠ 3 → t.tx.length ≤ l.length ∧ l.take t.tx.length = t.tx) := by
  cases l with
  | nil => simp [oneL] at h
  | cons c r =>
    have tk : ∀ k : Nat, ((c :: r).take k).length ≤ (c :: r).length ∧ (c :: r).take ((c :: r).take k).length = (c :: r).take k := fun k => by
      rw [List.length_take]
      refine ⟨by omega, ?_⟩
      rw [List.take_eq_take_iff]
      omega
    simp only [oneL] at h
    split at h
    · simp only [Option.some.injEq, Prod.mk.injEq] at h
      obtain ⟨rfl, rfl⟩ := h
      exact ⟨by show (1 : Int) ≠ 0; decide, fun _ => tk _⟩
    · split at h
      · cases hv : numV (c :: r) with
        | none => simp [hv] at h
        | some v =>
          simp only [hv, Option.map_some, Option.some.injEq, Prod.mk.injEq] at h
          obtain ⟨rfl, rfl⟩ := h
          exact ⟨by show (2 : Int) ≠ 0; decide, fun _ => tk _⟩
      · split at h
        · cases hq : qd r with
          | none => simp [hq] at h
          | some p =>
            simp only [hq, Option.map_some, Option.some.injEq, Prod.mk.injEq] at h
            obtain ⟨rfl, rfl⟩ := h
            exact ⟨by show (3 : Int) ≠ 0; decide, fun h => absurd rfl h⟩
        · split at h
          · simp only [Option.some.injEq, Prod.mk.injEq] at h
            obtain ⟨rfl, rfl⟩ := h
            exact ⟨by show (4 : Int) ≠ 0; decide, fun _ => tk 1⟩
          · cases h
theorem cut_places (L : List UInt8) : ∀ (k a : Nat), L.length - a ≤ k → a ≤ L.length → (∀ e, cutL a (L.drop a) = .inl e → e ≤ L.length) ∧ (∀ us, cutL a (L.drop a) = .inr us → (∀ pr : Int, pr < (a : Int) → PlL L pr us) ∧ ∃ i, us = i ++ [(endT, L.length)])
  | k, a, hk, ha => by
    rcases hd : L.drop a with _ | ⟨c, r⟩
    · have hla : L.length = a := by
        have := congrArg List.length hd
        rw [List.length_drop] at this
        simp at this; omega
      rw [cutL_nil]
      refine ⟨fun e h => (by cases h), fun us h => ?_⟩
      cases h
      refine ⟨fun pr hpr => ?_, [], by rw [hla]; rfl⟩
      refine ⟨fun h => by simp [endT] at h, by omega, by omega, fun _ => ⟨by simp [endT]; omega, by simp [endT]⟩, trivial⟩
    · have hl := congrArg List.length hd
      rw [List.length_drop] at hl
      simp only [List.length_cons] at hl
      obtain ⟨k, rfl⟩ : ∃ k', k = k' + 1 := ⟨k - 1, by omega⟩
      have hr : L.drop (a + 1) = r := by
        have := congrArg (List.drop 1) hd
        rw [List.drop_drop] at this
        simpa using this
      cases hb : isBl c with
      | true =>
        rw [cutL_bl hb, ← hr]
        obtain ⟨i1, i2⟩ := cut_places L k (a + 1) (by omega) (by omega)
        exact ⟨i1, fun us h => ⟨fun pr hpr => (i2 us h).1 pr (by omega), (i2 us h).2⟩⟩
      | false =>
        by_cases h35 : c.toNat = 35
        · have h1 := run_cm (r := r) h35
          have h2 := runN_le no10 (c :: r)
          simp only [List.length_cons] at h2
          rw [cutL_cm hb h35, ← hd, List.drop_drop]
          rw [← hd] at h1 h2
          obtain ⟨i1, i2⟩ := cut_places L k (a + runN no10 (L.drop a)) (by omega) (by omega)
          exact ⟨i1, fun us h => ⟨fun pr hpr => (i2 us h).1 pr (by omega), (i2 us h).2⟩⟩
        · cases ho : oneL (c :: r) with
          | none =>
            rw [cutL_none hb h35 ho]
            exact ⟨fun e h => (by cases h; exact ha), fun us h => by cases h⟩
          | some q =>
            obtain ⟨t, n⟩ := q
            obtain ⟨n1, n2⟩ := oneL_len ho
            obtain ⟨x1, x2⟩ := oneL_text ho
            simp only [List.length_cons] at n2
            rw [cutL_some hb h35 ho, ← hd, List.drop_drop]
            obtain ⟨i1, i2⟩ := cut_places L k (a + n) (by omega) (by omega)
            refine ⟨fun e h => ?_, fun us h => ?_⟩
            · cases hc : cutL (a + n) (L.drop (a + n)) with
              | inl e' =>
                rw [hc] at h
                simp only [preC, Sum.inl.injEq] at h
                subst h
                exact i1 _ hc
              | inr vs => rw [hc] at h; cases h
            · cases hc : cutL (a + n) (L.drop (a + n)) with
              | inl e' => rw [hc] at h; cases h
              | inr vs =>
                rw [hc] at h
                simp only [preC, Sum.inr.injEq] at h
                subst h
                obtain ⟨j1, i, j2⟩ := i2 _ hc
                refine ⟨fun pr hpr => ⟨fun _ => hpr, by omega, by omega, fun hk => ?_, j1 _ (by omega)⟩, (t, a) :: i, by rw [j2]; rfl⟩
                obtain ⟨y1, y2⟩ := x2 hk
                simp only [List.length_cons] at y1
                exact ⟨by show a + t.tx.length ≤ L.length; omega, by show (L.drop a).take t.tx.length = t.tx; rw [hd]; exact y2⟩

/-! Two texts, one behind the other. -/
def shC (d : Nat) : Cuts → Cuts
  | .inl e => .inl (e + d)
  | .inr us => .inr (us.map fun p => (p.1, p.2 + d))
theorem shC_pre (d : Nat) (us : List (Tk × Nat)) (c : Cuts) : shC d (preC us c) = preC (us.map fun p => (p.1, p.2 + d)) (shC d c) := by
  cases c <;> simp [shC, preC]
theorem cutL_shift (d : Nat) : ∀ (k a : Nat) (l : List UInt8), l.length ≤ k → cutL (a + d) l = shC d (cutL a l)
  | _, a, [], _ => rfl
  | 0, a, _ :: _, h => by simp at h
  | k + 1, a, c :: r, h => by
    simp only [List.length_cons] at h
    cases hb : isBl c with
    | true => rw [cutL_bl hb, cutL_bl hb, ← cutL_shift d k (a + 1) r (by omega), Nat.add_right_comm]
    | false =>
      by_cases h35 : c.toNat = 35
      · have h1 := run_cm (r := r) h35
        rw [cutL_cm hb h35, cutL_cm hb h35, ← cutL_shift d k _ _ (by rw [List.length_drop]; simp; omega), Nat.add_right_comm]
      · cases ho : oneL (c :: r) with
        | none => rw [cutL_none hb h35 ho, cutL_none hb h35 ho]; rfl
        | some q =>
          obtain ⟨t, n⟩ := q
          obtain ⟨n1, n2⟩ := oneL_len ho
          rw [cutL_some hb h35 ho, cutL_some hb h35 ho, shC_pre, ← cutL_shift d k _ _ (by rw [List.length_drop]; simp; omega), Nat.add_right_comm]
          rfl
theorem wordN_lf (y : List UInt8) : ∀ (b : Bool) (x : List UInt8), wordN b (x ++ 10 :: y) = wordN b x
  | b, [] => by
    have : wq b 10 = false := by cases b <;> rfl
    simp [wordN, this]
  | b, c :: r => by
    simp only [List.cons_append, wordN, wordN_lf y true r]
theorem runN_lf {p : UInt8 → Bool} (hp : p 10 = false) (y : List UInt8) : ∀ x : List UInt8, runN p (x ++ 10 :: y) = runN p x
  | [] => by simp [runN, hp]
  | c :: r => by simp only [List.cons_append, runN, runN_lf hp y r]
theorem hexH_lf (y : List UInt8) : ∀ x : List UInt8, x ≠ [] → hexH (x ++ 10 :: y) = hexH x
  | [], h => absurd rfl h
  | [a], _ => by simp [hexH]
  | a :: b :: r, _ => rfl
theorem inB_lf (B : Nat) : inB B 10 = false := by simp [inB, isDig, isHx]
theorem num_lf {x : List UInt8} (y : List UInt8) (h : x ≠ []) : nB (x ++ 10 :: y) = nB x ∧ nF (x ++ 10 :: y) = nF x ∧ nN (x ++ 10 :: y) = nN x ∧ nDs (x ++ 10 :: y) = nDs x ∧ numV (x ++ 10 :: y) = numV x := by
  have hB : nB (x ++ 10 :: y) = nB x := by simp only [nB, hexH_lf y x h]
  have hF : nF (x ++ 10 :: y) = nF x := by simp only [nF, hexH_lf y x h]
  have hN : nN (x ++ 10 :: y) = nN x := by
    unfold nN
    rw [hB, hF, List.drop_append_of_le_length (nF_le x), runN_lf (inB_lf _)]
  have hD : nDs (x ++ 10 :: y) = nDs x := by
    unfold nDs
    rw [hN, hF, List.take_append_of_le_length (nN_le x)]
  refine ⟨hB, hF, hN, hD, ?_⟩
  unfold numV
  rw [hB, hD, hN, List.drop_append_of_le_length (nN_le x), wordN_lf]
theorem qd_lf (y : List UInt8) : ∀ x : List UInt8, qd (x ++ 10 :: y) = qd x
  | [] => by
    cases y <;> simp [qd]
  | [c] => by
    have h10 : qd (10 :: y) = none := by cases y <;> simp [qd]
    have he : escD 10 = none := rfl
    show qd (c :: 10 :: y) = qd [c]
    simp only [qd, h10, he]
    split
    · rfl
    · split
      · rfl
      · split <;> rfl
  | c :: e :: r => by
    have h1 := qd_lf y r
    have h2 := qd_lf y (e :: r)
    show qd (c :: e :: (r ++ 10 :: y)) = qd (c :: e :: r)
    simp only [qd, h1]
    rw [show qd (e :: (r ++ 10 :: y)) = qd (e :: r) from h2]
theorem oneL_lf {x : List UInt8} (y : List UInt8) (h : x ≠ []) : oneL (x ++ 10 :: y) = oneL x := by
  match x, h with
  | c :: r, h =>
    obtain ⟨-, -, hN, -, hV⟩ := num_lf y h
    have hw := wordN_lf y false (c :: r)
    have hq := qd_lf y r
    have t1 := List.take_append_of_le_length (l₂ := 10 :: y) (wordN_le false (c :: r))
    have t2 := List.take_append_of_le_length (l₂ := 10 :: y) (nN_le (c :: r))
    simp only [List.cons_append] at hN hV hw t1 t2 ⊢
    simp only [oneL, hw, hN, hV, hq, t1, t2]
theorem cut_lf (y : List UInt8) : ∀ (k a : Nat) (x : List UInt8), x.length ≤ k → (∀ e, cutL a x = .inl e → cutL a (x ++ 10 :: y) = .inl e) ∧ (∀ us, cutL a x = .inr us → ∃ i, us = i ++ [(endT, a + x.length)] ∧ cutL a (x ++ 10 :: y) = preC i (cutL (a + x.length + 1) y))
  | _, a, [], _ => by
    refine ⟨fun e h => (by cases h), fun us h => ?_⟩
    cases h
    refine ⟨[], rfl, ?_⟩
    rw [preC_nil]
    exact cutL_bl rfl
  | 0, a, _ :: _, h => by simp at h
  | k + 1, a, c :: r, h => by
    simp only [List.length_cons] at h
    cases hb : isBl c with
    | true =>
      obtain ⟨i1, i2⟩ := cut_lf y k (a + 1) r (by omega)
      rw [List.cons_append, cutL_bl hb, cutL_bl hb]
      refine ⟨i1, fun us hu => ?_⟩
      obtain ⟨i, e1, e2⟩ := i2 us hu
      refine ⟨i, ?_, ?_⟩
      · rw [e1]; simp; omega
      · rw [e2]; simp only [List.length_cons]; congr 2; omega
    | false =>
      by_cases h35 : c.toNat = 35
      · have h1 := run_cm (r := r) h35
        have h2 := runN_le no10 (c :: r)
        have hr := runN_lf (p := no10) rfl y (c :: r)
        rw [List.cons_append] at hr ⊢
        rw [cutL_cm hb h35, cutL_cm hb h35, hr, ← List.cons_append, List.drop_append_of_le_length h2]
        obtain ⟨i1, i2⟩ := cut_lf y k (a + runN no10 (c :: r)) ((c :: r).drop (runN no10 (c :: r))) (by rw [List.length_drop]; simp; omega)
        refine ⟨i1, fun us hu => ?_⟩
        obtain ⟨i, e1, e2⟩ := i2 us hu
        have hl : a + runN no10 (c :: r) + ((c :: r).drop (runN no10 (c :: r))).length = a + (c :: r).length := by rw [List.length_drop]; omega
        rw [hl] at e1 e2
        exact ⟨i, e1, e2⟩
      · have hol := oneL_lf y (x := c :: r) (by simp)
        rw [List.cons_append] at hol ⊢
        cases ho : oneL (c :: r) with
        | none =>
          rw [ho] at hol
          rw [cutL_none hb h35 ho, cutL_none hb h35 hol]
          exact ⟨fun e h => h, fun us h => by cases h⟩
        | some q =>
          obtain ⟨t, n⟩ := q
          rw [ho] at hol
          obtain ⟨n1, n2⟩ := oneL_len ho
          rw [cutL_some hb h35 ho, cutL_some hb h35 hol, ← List.cons_append, List.drop_append_of_le_length n2]
          obtain ⟨i1, i2⟩ := cut_lf y k (a + n) ((c :: r).drop n) (by rw [List.length_drop]; simp; omega)
          have hl : a + n + ((c :: r).drop n).length = a + (c :: r).length := by rw [List.length_drop]; omega
          rw [hl] at i2
          cases hc : cutL (a + n) ((c :: r).drop n) with
          | inl e' =>
            refine ⟨fun e h => ?_, fun us h => by cases h⟩
            rw [i1 e' hc]
            exact h
          | inr vs =>
            refine ⟨fun e h => (by cases h), fun us h => ?_⟩
            simp only [preC, Sum.inr.injEq] at h
            subst h
            obtain ⟨i, e1, e2⟩ := i2 vs hc
            exact ⟨(t, a) :: i, by rw [e1]; rfl, by rw [e2, preC_pre]; rfl⟩
end Go.Proofs.YtgfkjldohilmkaaDoor.Ab
/- A manifest's text is read: the parser. -/
set_option linter.unusedVariables false
set_option linter.unusedSimpArgs false
namespace Go.Proofs.YtgfkjldohilmkaaDoor.Ab
open Go Go.RowKit
set_option maxHeartbeats 1000000
set_option maxRecDepth 100000

/-- What lies of a token in a slice. -/
structure TokAt (m : Mem) (v : Value) (n j : Nat) (p : Tk × Nat) (i q : Nat) (L : List Value) : Prop where
  idx : sidx 4 v (.int .i64 (j : Int)) = some (.pointer (some ⟨i, q, none⟩))
  get : (m.get i).cells? = some L
  len : q + 4 ≤ L.length
  g0 : L[q]? = some (.int .i64 p.1.kd)
  g1 : L[q + 1]? = some (.string ⟨⟨p.1.tx⟩⟩)
  g2 : L[q + 2]? = some (.int .i64 p.1.vl)
  g3 : L[q + 3]? = some (.int .i64 (p.2 : Int))
  g : (L.drop q).take 4 = cellP p
theorem tok_at {m : Mem} {v : Value} {us : List (Tk × Nat)} {j : Nat} (h : SlR m 4 v (us.flatMap cellP) us.length) (hj : j < us.length) : ∃ i q L, TokAt m v us.length j us[j] i q L := by
  obtain ⟨i, o, L, hv, hL, hl, ht, hc⟩ := h.at hj
  refine ⟨i, o + j * 4, L, ?_, hL, by omega, ?_, ?_, ?_, ?_, ?_⟩
  · rw [hv]; exact sidx_at hj
  · have := hc 0 (by omega)
    rw [flat_at' cellP_len us (List.getElem?_eq_getElem hj) (by omega)] at this
    exact this
  · have := hc 1 (by omega)
    rw [flat_at' cellP_len us (List.getElem?_eq_getElem hj) (by omega)] at this
    exact this
  · have := hc 2 (by omega)
    rw [flat_at' cellP_len us (List.getElem?_eq_getElem hj) (by omega)] at this
    exact this
  · have := hc 3 (by omega)
    rw [flat_at' cellP_len us (List.getElem?_eq_getElem hj) (by omega)] at this
    exact this
  · rw [ht, flat_at cellP_len us (List.getElem?_eq_getElem hj)]
theorem getL {L : List Value} {k : Nat} {x : Value} (h : L[k]? = some x) : ∀ hk : k < L.length, L[k]'hk = x := fun hk => by
  rw [List.getElem?_eq_getElem hk] at h
  exact Option.some.inj h


/-- Where a parser is, and what was wrong first. -/
structure PS where
  k : Nat
  err : Option (Nat × Nat)
def errV (e : Option (Nat × Nat)) : Value := match e with
  | none => .nilIface
  | some p => faultV p.1 p.2
/-- The parser lies in a block, over tokens that lie in another. -/
def PsAt (m : Mem) (ip it : Nat) (ts : List (Tk × Nat)) (s : PS) : Prop := m.get ip = .own [.slice (some ⟨it, 0, none⟩) ts.length 4, .int .i64 (s.k : Int), errV s.err] 75 ∧ m.get it = .own (ts.flatMap cellP) 78 ∧ ip < m.next ∧ it < m.next ∧ ip ≠ it
/-- Nothing but the parser has changed. -/
def Kept (ip : Nat) (m m' : Mem) : Prop := m.next ≤ m'.next ∧ ∀ i, i < m.next → i ≠ ip → m'.get i = m.get i
theorem Kept.refl (ip : Nat) (m : Mem) : Kept ip m m := ⟨Nat.le_refl _, fun _ _ _ => rfl⟩
theorem Kept.trans {ip : Nat} {a b c : Mem} (h : Kept ip a b) (k : Kept ip b c) : Kept ip a c :=
  ⟨Nat.le_trans h.1 k.1, fun i hi hn => by rw [k.2 i (Nat.lt_of_lt_of_le hi h.1) hn, h.2 i hi hn]⟩
theorem Old.kept {ip : Nat} {a b : Mem} (h : Old a b) : Kept ip a b := ⟨h.1, fun i hi _ => h.2 i hi⟩
theorem PsAt.old {m m' : Mem} {ip it : Nat} {ts : List (Tk × Nat)} {s : PS} (h : PsAt m ip it ts s) (o : Old m m') : PsAt m' ip it ts s :=
  ⟨by rw [o.2 _ h.2.2.1]; exact h.1, by rw [o.2 _ h.2.2.2.1]; exact h.2.1, Nat.lt_of_lt_of_le h.2.2.1 o.1, Nat.lt_of_lt_of_le h.2.2.2.1 o.1, h.2.2.2.2⟩

def tok0 : Tk × Nat := (⟨0, [], 0⟩, 0)
def failF (ts : List (Tk × Nat)) (no : Nat) (s : PS) : PS := match s.err with
  | some e => s
  | none => ⟨s.k, some (no, (ts.getD s.k tok0).2)⟩
def misfit (t : Tk) (kd : Int) (tx : List UInt8) : Bool := (t.kd != kd) || (!tx.isEmpty && t.tx != tx)
def takeF (ts : List (Tk × Nat)) (kd : Int) (tx : List UInt8) (s : PS) : (Tk × Nat) × PS :=
  let s' := if misfit (ts.getD s.k tok0).1 kd tx then failF ts 2 s else s
  match s'.err with
  | some e => (tok0, s')
  | none => (ts.getD s.k tok0, ⟨s.k + 1, none⟩)

theorem c_fail {w0 : World} {m : Mem} {ip it no : Nat} {ts : List (Tk × Nat)} {s : PS} {Q : Value → Mem → Prop} (h : PsAt m ip it ts s) (hk : s.k < ts.length) (hl : ts.length ≤ 1000000)
    (hq : ∀ m', Kept ip m m' → PsAt m' ip it ts (failF ts no s) → Q (.tuple ⟨[]⟩) m') : AbC Tryd.prog w0 58 [.pointer (some ⟨ip, 0, none⟩), .int .i64 (no : Int)] m Q := by
  refine AbC_fn ok58 (by simp) ?_
  obtain ⟨h1, h2, h3, h4, h5⟩ := h
  obtain ⟨k, err⟩ := s
  have hk : k < ts.length := hk
  cases err with
  | some e =>
    have h1 : m.get ip = .own [.slice (some ⟨it, 0, none⟩) ts.length 4, .int .i64 (k : Int), faultV e.1 e.2] 75 := h1
    simp -implicitDefEqProofs (disch := first | assumption | (simp only [wnA]; done) | (simp only [wnA]; omega) | omega | fail) [rc58, ro58, wkA, retV, stabOk, dC, ev, fillD, pickCells, putAt, bnd, slD, List.getElem?_cons_zero, List.getElem?_cons_succ, dR.eq_20, Mem.cell, Mem.row, wmA, h1, faultV]
    exact hq m (Kept.refl _ _) ⟨h1, h2, h3, h4, h5⟩
  | none =>
    have h1 : m.get ip = .own [.slice (some ⟨it, 0, none⟩) ts.length 4, .int .i64 (k : Int), .nilIface] 75 := h1
    have hs : SlO m 78 4 (some it) (ts.flatMap cellP) ts.length := ⟨cellsP_len ts, h2, h4⟩
    obtain ⟨i1, q1, L1, A⟩ := tok_at hs.read hk
    have hidx : sidx 4 (.slice (some ⟨it, 0, none⟩) ts.length 4) (.int .i64 (k : Int)) = some (.pointer (some ⟨i1, q1, none⟩)) := A.idx
    have hb1 := A.len
    have hgd : ts.getD k tok0 = ts[k] := by simp [List.getD, List.getElem?_eq_getElem hk]
    simp -implicitDefEqProofs (disch := first | assumption | (simp only [wnA]; done) | (simp only [wnA]; omega) | omega | fail) [rc58, ro58, wkA, retV, stabOk, dC, ev, fillD, pickCells, putAt, bnd, slD, List.getElem?_cons_zero, List.getElem?_cons_succ, dR.eq_20, Mem.cell, Mem.row, wmA, h1, hidx, A.get, A.g3, getL A.g3]
    refine c_Wrap ?_
    simp -implicitDefEqProofs (disch := first | assumption | (simp only [wnA]; done) | (simp only [wnA]; omega) | omega | fail) [wkA, retV, stabOk, dC, ev, fillD, pickCells, putAt, bnd, slD, List.getElem?_cons_zero, List.getElem?_cons_succ, dR.eq_20, Mem.cell, Mem.row, wmA]
    refine SK_st (i := ip) (o := 2) (by simp [wkA, retV, stabOk, dC, ev, fillD, pickCells, putAt, bnd, slD, List.getElem?_cons_zero, List.getElem?_cons_succ, dR.eq_20]) (e := 75) h1 (by simp) (by simp [wkA, retV, stabOk, dC, ev, fillD, pickCells, putAt, bnd, slD, List.getElem?_cons_zero, List.getElem?_cons_succ, dR.eq_20, faultV]) (by simp [wkA, retV, stabOk, dC, ev, fillD, pickCells, putAt, bnd, slD, List.getElem?_cons_zero, List.getElem?_cons_succ, dR.eq_20, faultV, oneC]) ?_
    simp -implicitDefEqProofs (disch := first | assumption | (simp only [wnA]; done) | (simp only [wnA]; omega) | omega | fail) [wkA, retV, stabOk, dC, ev, fillD, pickCells, putAt, bnd, slD, List.getElem?_cons_zero, List.getElem?_cons_succ, dR.eq_20, Mem.cell, Mem.row, wmA, faultV]
    refine hq _ ⟨Nat.le_refl _, fun i hi hn => Mem.set_other _ _ hn⟩ ⟨?_, ?_, h3, h4, h5⟩
    · simp [failF, errV, faultV, hgd, List.getElem?_eq_getElem hk]
    · rw [Mem.set_other _ _ (fun e => h5 e.symm)]; exact h2

/-- What a take answers with, when all that was wrong is said. -/
def takeR (p : Tk × Nat) (s : PS) : (Tk × Nat) × PS := match s.err with
  | some e => (tok0, s)
  | none => (p, ⟨s.k + 1, none⟩)
theorem takeF_eq (ts : List (Tk × Nat)) (kd : Int) (tx : List UInt8) (s : PS) : takeF ts kd tx s = takeR (ts.getD s.k tok0) (if misfit (ts.getD s.k tok0).1 kd tx then failF ts 2 s else s) := by
  obtain ⟨k, err⟩ := s
  simp only [takeF, takeR]
  by_cases h : misfit (ts.getD k tok0).1 kd tx = true
  · simp only [h, if_true]
    cases err <;> simp [failF]
  · simp only [h, if_false]
    cases err <;> simp

theorem w_take1 {w0 : World} {fr : Fr} {base m : Mem} {ip it i6 i7 : Nat} {ts : List (Tk × Nat)} {p : Tk × Nat} {s : PS} {Q : AQ} (h : PsAt m ip it ts s) (hb : Kept ip base m) (hp : ip < base.next) (hpt : it < base.next) (h6 : base.next ≤ i6) (h7 : base.next ≤ i7) (h67 : i6 ≠ i7)
    (e0 : fr 0 = .pointer (some ⟨ip, 0, none⟩)) (e6 : fr 6 = .pointer (some ⟨i6, 0, none⟩)) (e7 : fr 7 = .pointer (some ⟨i7, 0, none⟩)) (g6 : m.get i6 = .own (cellP tok0) 78) (g7 : m.get i7 = .own (cellP p) 78) (hk : s.k < 1000000)
    (hQ : ∀ fr' m', fr' 6 = .pointer (some ⟨i6, 0, none⟩) → m'.get i6 = .own (cellP (takeR p s).1) 78 → Kept ip base m' → PsAt m' ip it ts (takeR p s).2 → Q .ret fr' m') : AbW Tryd.prog w0 rc42_1 Q fr m := by
  obtain ⟨k, err⟩ := s
  obtain ⟨h1, h2, h3, h4, h5⟩ := h
  have hk : k < 1000000 := hk
  have z6 : m.get i6 = .own [.int .i64 0, .string ⟨#[]⟩, .int .i64 0, .int .i64 0] 78 := g6
  cases err with
  | some e =>
    have h1 : m.get ip = .own [.slice (some ⟨it, 0, none⟩) ts.length 4, .int .i64 (k : Int), faultV e.1 e.2] 75 := h1
    simp -implicitDefEqProofs (disch := first | assumption | (simp only [wnA]; done) | (simp only [wnA]; omega) | omega | fail) [rc42_1, wkA, retV, stabOk, dC, ev, fillD, pickCells, putAt, bnd, slD, List.getElem?_cons_zero, List.getElem?_cons_succ, dR.eq_20, Mem.cell, Mem.row, wmA, e0, h1, faultV, e6]
    refine SK_st (i := i6) (o := 0) (by simp [wkA, retV, stabOk, dC, ev, fillD, pickCells, putAt, bnd, slD, List.getElem?_cons_zero, List.getElem?_cons_succ, dR.eq_20, e6]) (e := 78) z6 (by simp) (by simp [wkA, retV, stabOk, dC, ev, fillD, pickCells, putAt, bnd, slD, List.getElem?_cons_zero, List.getElem?_cons_succ, dR.eq_20]) (by simp [wkA, retV, stabOk, dC, ev, fillD, pickCells, putAt, bnd, slD, List.getElem?_cons_zero, List.getElem?_cons_succ, dR.eq_20, oneC]) ?_
    simp -implicitDefEqProofs (disch := first | assumption | (simp only [wnA]; done) | (simp only [wnA]; omega) | omega | fail) [wkA, retV, stabOk, dC, ev, fillD, pickCells, putAt, bnd, slD, List.getElem?_cons_zero, List.getElem?_cons_succ, dR.eq_20, Mem.cell, Mem.row, wmA]
    refine hQ _ _ (by first | exact e6 | simp [e6]) (by simp [takeR, tok0, cellP, Tk.cells]) ⟨hb.1, fun i hi hn => by rw [Mem.set_other _ _ (by omega)]; exact hb.2 i hi hn⟩ ⟨?_, ?_, h3, h4, h5⟩
    · rw [Mem.set_other _ _ (by omega)]; exact h1
    · rw [Mem.set_other _ _ (by omega)]; exact h2
  | none =>
    have h1 : m.get ip = .own [.slice (some ⟨it, 0, none⟩) ts.length 4, .int .i64 (k : Int), .nilIface] 75 := h1
    have w1 : IntKind.i64.wrap ((k : Int) + 1) = (k : Int) + 1 := w64 (by omega)
    have n7p : i7 ≠ ip := by omega
    have n6p : i6 ≠ ip := by omega
    simp -implicitDefEqProofs (disch := first | assumption | (simp only [wnA]; done) | (simp only [wnA]; omega) | omega | fail) [rc42_1, wkA, retV, stabOk, dC, ev, fillD, pickCells, putAt, bnd, slD, List.getElem?_cons_zero, List.getElem?_cons_succ, dR.eq_20, Mem.cell, Mem.row, wmA, e0, h1, e6, rc42_0, w1]
    refine SK_st (i := ip) (o := 1) (by simp [wkA, retV, stabOk, dC, ev, fillD, pickCells, putAt, bnd, slD, List.getElem?_cons_zero, List.getElem?_cons_succ, dR.eq_20]) (e := 75) h1 (by simp) (by simp [wkA, retV, stabOk, dC, ev, fillD, pickCells, putAt, bnd, slD, List.getElem?_cons_zero, List.getElem?_cons_succ, dR.eq_20]) (by simp [wkA, retV, stabOk, dC, ev, fillD, pickCells, putAt, bnd, slD, List.getElem?_cons_zero, List.getElem?_cons_succ, dR.eq_20, oneC]) ?_
    have a6 : (m.set ip (.own [.slice (some ⟨it, 0, none⟩) ts.length 4, .int .i64 ((k : Int) + 1), .nilIface] 75)).get i6 = .own [.int .i64 0, .string ⟨#[]⟩, .int .i64 0, .int .i64 0] 78 := by rw [Mem.set_other _ _ n6p]; exact z6
    have a7 : (m.set ip (.own [.slice (some ⟨it, 0, none⟩) ts.length 4, .int .i64 ((k : Int) + 1), .nilIface] 75)).get i7 = .own [.int .i64 p.1.kd, .string ⟨⟨p.1.tx⟩⟩, .int .i64 p.1.vl, .int .i64 (p.2 : Int)] 78 := by rw [Mem.set_other _ _ n7p]; exact g7
    have z7 : m.get i7 = .own [.int .i64 p.1.kd, .string ⟨⟨p.1.tx⟩⟩, .int .i64 p.1.vl, .int .i64 (p.2 : Int)] 78 := g7
    simp -implicitDefEqProofs (disch := first | assumption | (simp only [wnA]; done) | (simp only [wnA]; omega) | omega | fail) [wkA, retV, stabOk, dC, ev, fillD, pickCells, putAt, bnd, slD, List.getElem?_cons_zero, List.getElem?_cons_succ, dR.eq_20, Mem.cell, Mem.row, wmA, e7, e6, z7]
    refine SK_st (i := i6) (o := 0) (by simp [wkA, retV, stabOk, dC, ev, fillD, pickCells, putAt, bnd, slD, List.getElem?_cons_zero, List.getElem?_cons_succ, dR.eq_20, e6]) (e := 78) a6 (by simp) (by simp [wkA, retV, stabOk, dC, ev, fillD, pickCells, putAt, bnd, slD, List.getElem?_cons_zero, List.getElem?_cons_succ, dR.eq_20]) (by simp [wkA, retV, stabOk, dC, ev, fillD, pickCells, putAt, bnd, slD, List.getElem?_cons_zero, List.getElem?_cons_succ, dR.eq_20, oneC]) ?_
    simp -implicitDefEqProofs (disch := first | assumption | (simp only [wnA]; done) | (simp only [wnA]; omega) | omega | fail) [wkA, retV, stabOk, dC, ev, fillD, pickCells, putAt, bnd, slD, List.getElem?_cons_zero, List.getElem?_cons_succ, dR.eq_20, Mem.cell, Mem.row, wmA]
    refine hQ _ _ (by first | exact e6 | simp [e6]) (by simp [takeR, cellP, Tk.cells]) ⟨hb.1, fun i hi hn => by rw [Mem.set_other _ _ (by omega), Mem.set_other _ _ hn]; exact hb.2 i hi hn⟩ ⟨?_, ?_, h3, h4, h5⟩
    · rw [Mem.set_other _ _ (by omega)]; simp [takeR, errV]
    · rw [Mem.set_other _ _ (by omega), Mem.set_other _ _ (fun e => h5 e.symm)]; exact h2

theorem c_take {w0 : World} {m : Mem} {ip it : Nat} {ts : List (Tk × Nat)} {kd : Int} {tx : List UInt8} {s : PS} {Q : Value → Mem → Prop} (h : PsAt m ip it ts s) (hk : s.k < ts.length) (hl : ts.length ≤ 1000000)
    (hq : ∀ m', Kept ip m m' → PsAt m' ip it ts (takeF ts kd tx s).2 → Q (.agg ⟨cellP (takeF ts kd tx s).1⟩) m') : AbC Tryd.prog w0 42 [.pointer (some ⟨ip, 0, none⟩), .int .i64 kd, .string ⟨⟨tx⟩⟩] m Q := by
  refine AbC_fn ok42 (by simp) ?_
  rw [takeF_eq] at hq
  have hgd : ts.getD s.k tok0 = ts[s.k] := by simp [List.getD, List.getElem?_eq_getElem hk]
  obtain ⟨h1, h2, h3, h4, h5⟩ := h
  have hs : SlO m 78 4 (some it) (ts.flatMap cellP) ts.length := ⟨cellsP_len ts, h2, h4⟩
  have hidx : sidx 4 (.slice (some ⟨it, 0, none⟩) ts.length 4) (.int .i64 (s.k : Int)) = some (.pointer (some ⟨it, 0 + s.k * 4, none⟩)) := sidx_at hk
  rw [Nat.zero_add] at hidx
  have hb1 : s.k * 4 + 4 ≤ (ts.flatMap cellP).length := by rw [cellsP_len]; omega
  have hg : ((ts.flatMap cellP).drop (s.k * 4)).take 4 = cellP ts[s.k] := flat_at cellP_len ts (List.getElem?_eq_getElem hk)
  rw [hgd] at hq
  clear hgd
  generalize ts[s.k] = p at *
  obtain ⟨⟨kd0, tx0, vl0⟩, at0⟩ := p
  obtain ⟨L, hL⟩ : ∃ L, ts.flatMap cellP = L := ⟨_, rfl⟩
  rw [hL] at h2 hg hb1
  have hg : (L.drop (s.k * 4)).take 4 = [.int .i64 kd0, .string ⟨⟨tx0⟩⟩, .int .i64 vl0, .int .i64 (at0 : Int)] := hg
  simp -implicitDefEqProofs (disch := first | assumption | (simp only [wnA]; done) | (simp only [wnA]; omega) | omega | fail) [rc42, ro42, wkA, retV, stabOk, dC, ev, fillD, pickCells, putAt, bnd, slD, List.getElem?_cons_zero, List.getElem?_cons_succ, dR.eq_20, Mem.cell, Mem.row, wmA, h1, h2, hidx, hg, hb1]
  refine SK_st (i := m.next + 1) (o := 0) (by simp [wkA, retV, stabOk, dC, ev, fillD, pickCells, putAt, bnd, slD, List.getElem?_cons_zero, List.getElem?_cons_succ, dR.eq_20]) (e := 78) (by simp -implicitDefEqProofs (disch := first | assumption | (simp only [wnA]; done) | (simp only [wnA]; omega) | omega | fail) [wkA, retV, stabOk, dC, ev, fillD, pickCells, putAt, bnd, slD, List.getElem?_cons_zero, List.getElem?_cons_succ, dR.eq_20, Mem.cell, Mem.row, wmA]; rfl) (by simp) (by simp [wkA, retV, stabOk, dC, ev, fillD, pickCells, putAt, bnd, slD, List.getElem?_cons_zero, List.getElem?_cons_succ, dR.eq_20]) (by simp [wkA, retV, stabOk, dC, ev, fillD, pickCells, putAt, bnd, slD, List.getElem?_cons_zero, List.getElem?_cons_succ, dR.eq_20, oneC]) ?_
  simp -implicitDefEqProofs (disch := first | assumption | (simp only [wnA]; done) | (simp only [wnA]; omega) | omega | fail) [wkA, retV, stabOk, dC, ev, fillD, pickCells, putAt, bnd, slD, List.getElem?_cons_zero, List.getElem?_cons_succ, dR.eq_20, Mem.cell, Mem.row, wmA]
  obtain ⟨M, hM⟩ : ∃ M, ((m.push (.own [.int .i64 0, .string ⟨#[]⟩, .int .i64 0, .int .i64 0] 78)).push (.own [.int .i64 0, .string ⟨#[]⟩, .int .i64 0, .int .i64 0] 78)).set (m.next + 1) (.own [.int .i64 kd0, .string ⟨⟨tx0⟩⟩, .int .i64 vl0, .int .i64 (at0 : Int)] 78) = M := ⟨_, rfl⟩
  have oM : Old m M := by subst hM; exact (((Old.refl m).push _).push _).set (by omega) _
  have g6 : M.get m.next = .own [.int .i64 0, .string ⟨#[]⟩, .int .i64 0, .int .i64 0] 78 := by subst hM; rw [Mem.set_other _ _ (by omega), Mem.push_old _ _ (by simp), Mem.push_same]
  have g7 : M.get (m.next + 1) = .own [.int .i64 kd0, .string ⟨⟨tx0⟩⟩, .int .i64 vl0, .int .i64 (at0 : Int)] 78 := by subst hM; rw [Mem.set_same]
  have nM : m.next + 2 ≤ M.next := by subst hM; simp
  simp only [hM]
  clear hM
  have pM : PsAt M ip it ts s := PsAt.old ⟨h1, by rw [hL]; exact h2, h3, h4, h5⟩ oM
  have go : ∀ (s' : PS) (fr : Fr) (m1 : Mem), s'.k < 1000000 → (if misfit ⟨kd0, tx0, vl0⟩ kd tx then failF ts 2 s else s) = s' → Kept ip m m1 → PsAt m1 ip it ts s' → m1.get m.next = M.get m.next → m1.get (m.next + 1) = M.get (m.next + 1) → fr 0 = .pointer (some ⟨ip, 0, none⟩) → fr 6 = .pointer (some ⟨m.next, 0, none⟩) → fr 7 = .pointer (some ⟨m.next + 1, 0, none⟩) → AbW Tryd.prog w0 rc42_1 (bodyA [.ldn 4 (.tmp 6)] Q) fr m1 := fun s' fr m1 hk' hs' hK hP e6' e7' f0 f6 f7 =>
    w_take1 (p := (⟨kd0, tx0, vl0⟩, at0)) hP hK h3 h4 (Nat.le_refl _) (by omega) (by omega) f0 f6 f7 (by rw [e6', g6]; rfl) (by rw [e7', g7]; rfl) hk' fun fr' m' x6 gx kx px => by
      have gx : m'.get m.next = .own (cellP (takeR (⟨kd0, tx0, vl0⟩, at0) s').1) 78 := gx
      have hq := hq m' kx (by rw [hs']; exact px)
      rw [hs'] at hq
      have hlen : 4 ≤ (cellP (takeR (⟨kd0, tx0, vl0⟩, at0) s').1).length := by rw [cellP_len]; omega
      have htk : (cellP (takeR (⟨kd0, tx0, vl0⟩, at0) s').1).take 4 = cellP (takeR (⟨kd0, tx0, vl0⟩, at0) s').1 := List.take_of_length_le (by rw [cellP_len]; omega)
      generalize cellP (takeR (⟨kd0, tx0, vl0⟩, at0) s').1 = C at *
      simp -implicitDefEqProofs (disch := first | assumption | (simp only [wnA]; done) | (simp only [wnA]; omega) | omega | fail) [wkA, retV, stabOk, dC, ev, fillD, pickCells, putAt, bnd, slD, List.getElem?_cons_zero, List.getElem?_cons_succ, dR.eq_20, Mem.cell, Mem.row, wmA, x6, gx, hlen, htk]
      exact hq
  have kk : (failF ts 2 s).k = s.k := by unfold failF; cases s.err <;> rfl
  have fl : ∀ (m2 : Mem), Kept ip M m2 → Kept ip m m2 ∧ m2.get m.next = M.get m.next ∧ m2.get (m.next + 1) = M.get (m.next + 1) := fun m2 k2 =>
    ⟨oM.kept.trans k2, k2.2 _ (by omega) (by omega), k2.2 _ (by omega) (by omega)⟩
  by_cases c1 : kd0 = kd
  · by_cases c2 : tx = []
    · simp -implicitDefEqProofs (disch := first | assumption | (simp only [wnA]; done) | (simp only [wnA]; omega) | omega | fail) [wkA, retV, stabOk, dC, ev, fillD, pickCells, putAt, bnd, slD, List.getElem?_cons_zero, List.getElem?_cons_succ, dR.eq_20, Mem.cell, Mem.row, wmA, c1, c2]
      exact go s _ M (by omega) (by simp [misfit, c1, c2]) oM.kept pM rfl rfl (by simp [frA_at]) (by simp) (by simp)
    · have c2' : tx.isEmpty = false := by cases tx <;> simp at c2 ⊢
      by_cases c3 : tx0 = tx
      · simp -implicitDefEqProofs (disch := first | assumption | (simp only [wnA]; done) | (simp only [wnA]; omega) | omega | fail) [wkA, retV, stabOk, dC, ev, fillD, pickCells, putAt, bnd, slD, List.getElem?_cons_zero, List.getElem?_cons_succ, dR.eq_20, Mem.cell, Mem.row, wmA, c1, c2', c3, g7]
        exact go s _ M (by omega) (by simp [misfit, c1, c2', c3]) oM.kept pM rfl rfl (by simp [frA_at]) (by simp) (by simp)
      · have c3' : (tx0 == tx) = false := by simpa using c3
        simp -implicitDefEqProofs (disch := first | assumption | (simp only [wnA]; done) | (simp only [wnA]; omega) | omega | fail) [wkA, retV, stabOk, dC, ev, fillD, pickCells, putAt, bnd, slD, List.getElem?_cons_zero, List.getElem?_cons_succ, dR.eq_20, Mem.cell, Mem.row, wmA, c1, c2', c3', g7]
        refine c_fail (no := 2) pM hk hl fun m2 k2 p2 => ?_
        obtain ⟨x1, x2, x3⟩ := fl m2 k2
        simp -implicitDefEqProofs (disch := first | assumption | (simp only [wnA]; done) | (simp only [wnA]; omega) | omega | fail) [wkA, retV, stabOk, dC, ev, fillD, pickCells, putAt, bnd, slD, List.getElem?_cons_zero, List.getElem?_cons_succ, dR.eq_20, Mem.cell, Mem.row, wmA]
        exact go (failF ts 2 s) _ m2 (by omega) (by simp [misfit, c1, c2', c3, c3']) x1 p2 x2 x3 (by simp [frA_at]) (by simp) (by simp)
  · simp -implicitDefEqProofs (disch := first | assumption | (simp only [wnA]; done) | (simp only [wnA]; omega) | omega | fail) [wkA, retV, stabOk, dC, ev, fillD, pickCells, putAt, bnd, slD, List.getElem?_cons_zero, List.getElem?_cons_succ, dR.eq_20, Mem.cell, Mem.row, wmA, bneT c1]
    refine c_fail (no := 2) pM hk hl fun m2 k2 p2 => ?_
    obtain ⟨x1, x2, x3⟩ := fl m2 k2
    simp -implicitDefEqProofs (disch := first | assumption | (simp only [wnA]; done) | (simp only [wnA]; omega) | omega | fail) [wkA, retV, stabOk, dC, ev, fillD, pickCells, putAt, bnd, slD, List.getElem?_cons_zero, List.getElem?_cons_succ, dR.eq_20, Mem.cell, Mem.row, wmA]
    exact go (failF ts 2 s) _ m2 (by omega) (by simp [misfit, bneT c1]) x1 p2 x2 x3 (by simp [frA_at]) (by simp) (by simp)
end Go.Proofs.YtgfkjldohilmkaaDoor.Ab
/- A manifest's text is read: an entry. -/
set_option linter.unusedVariables false
set_option linter.unusedSimpArgs false
namespace Go.Proofs.YtgfkjldohilmkaaDoor.Ab
open Go Go.RowKit
set_option maxHeartbeats 4000000
set_option maxRecDepth 100000

def wayOf (t : List UInt8) : Option Nat := if t = wayL 0 then some 0 else if t = wayL 1 then some 1 else if t = wayL 2 then some 2 else if t = wayL 3 then some 3 else none
def nameF (w : (Tk × Nat) × PS) : PS := match w.2.err with
  | some e => w.2
  | none => ⟨w.2.k, some (3, w.1.2)⟩
def entryF (ts : List (Tk × Nat)) (s : PS) : En × PS :=
  let r0 := takeF ts 1 [105, 109, 97, 103, 101] s
  let r1 := takeF ts 3 [] r0.2
  let r2 := takeF ts 1 [97, 116] r1.2
  let r3 := takeF ts 2 [] r2.2
  let r4 := takeF ts 1 [115, 105, 122, 101] r3.2
  let r5 := takeF ts 2 [] r4.2
  let r6 := takeF ts 1 [112, 114, 105, 110, 116] r5.2
  let r7 := takeF ts 2 [] r6.2
  let r8 := takeF ts 1 [98, 121] r7.2
  let r9 := takeF ts 1 [] r8.2
  match wayOf r9.1.1.tx with
  | some k => (⟨⟨⟨r1.1.1.tx⟩⟩, r3.1.1.vl, r5.1.1.vl, IntKind.u32.wrap r7.1.1.vl, (k : Int)⟩, (takeF ts 4 [59] r9.2).2)
  | none => (⟨⟨⟨r1.1.1.tx⟩⟩, r3.1.1.vl, r5.1.1.vl, IntKind.u32.wrap r7.1.1.vl, 0⟩, nameF r9)
theorem failF_k (ts : List (Tk × Nat)) (no : Nat) (s : PS) : (failF ts no s).k = s.k := by unfold failF; cases s.err <;> rfl
/-- The last token is the text's end. -/
def EndOk (ts : List (Tk × Nat)) : Prop := (ts.getD (ts.length - 1) tok0).1.kd = 0
theorem takeF_k {ts : List (Tk × Nat)} {kd : Int} {tx : List UInt8} {s : PS} (he : EndOk ts) (hk : s.k < ts.length) (h0 : kd ≠ 0) : (takeF ts kd tx s).2.k < ts.length := by
  rw [takeF_eq]
  unfold takeR
  split
  · split
    · rw [failF_k]; exact hk
    · exact hk
  · rename_i h
    split at h
    · exfalso
      unfold failF at h
      split at h
      · rename_i e he'; rw [he'] at h; cases h
      · cases h
    · rename_i hm
      rw [if_neg hm]
      have hkd : (ts.getD s.k tok0).1.kd = kd := by
        rcases Classical.em ((ts.getD s.k tok0).1.kd = kd) with h | h
        · exact h
        · exact absurd (show misfit (ts.getD s.k tok0).1 kd tx = true by unfold misfit; rw [bneT h]; rfl) hm
      have : s.k ≠ ts.length - 1 := fun e => h0 (by rw [← hkd, e]; exact he)
      show s.k + 1 < ts.length
      omega

theorem cellP_mk (kd : Int) (tx : List UInt8) (vl : Int) (a : Nat) : cellP (⟨kd, tx, vl⟩, a) = [.int .i64 kd, .string ⟨⟨tx⟩⟩, .int .i64 vl, .int .i64 (a : Int)] := rfl
theorem step_set {base m : Mem} {ip it i3 : Nat} {ts : List (Tk × Nat)} {s : PS} {x : Ent} (KB : Kept ip base m) (p : PsAt m ip it ts s) (h3 : base.next ≤ i3) (hip : ip < base.next) (hit : it < base.next) :
    ∃ M, m.set i3 x = M ∧ Kept ip base M ∧ PsAt M ip it ts s ∧ M.get i3 = x ∧ (∀ i, i ≠ i3 → M.get i = m.get i) ∧ M.next = m.next :=
  ⟨_, rfl, ⟨KB.1, fun i hi hn => by rw [Mem.set_other _ _ (by omega)]; exact KB.2 i hi hn⟩, ⟨by rw [Mem.set_other _ _ (by omega)]; exact p.1, by rw [Mem.set_other _ _ (by omega)]; exact p.2.1, p.2.2.1, p.2.2.2.1, p.2.2.2.2⟩, by rw [Mem.set_same], fun i hi => Mem.set_other _ _ hi, rfl⟩
theorem step_new {base m : Mem} {ip it : Nat} {ts : List (Tk × Nat)} {s : PS} {x z : Ent} (KB : Kept ip base m) (p : PsAt m ip it ts s) (hip : ip < base.next) (hit : it < base.next) :
    ∃ M, (m.push z).set m.next x = M ∧ Kept ip base M ∧ PsAt M ip it ts s ∧ M.get m.next = x ∧ (∀ i, i < m.next → M.get i = m.get i) ∧ M.next = m.next + 1 := by
  have KB' : Kept ip base (m.push z) := ⟨by have := KB.1; simp; omega, fun i hi hn => by rw [Mem.push_old _ _ (by have := KB.1; omega)]; exact KB.2 i hi hn⟩
  have p' : PsAt (m.push z) ip it ts s := p.old ((Old.refl m).push _)
  obtain ⟨M, h1, h2, h3, h4, h5, h6⟩ := step_set (x := x) (i3 := m.next) KB' p' KB.1 hip hit
  exact ⟨M, h1, h2, h3, h4, fun i hi => by rw [h5 i (by omega), Mem.push_old _ _ hi], h6⟩

theorem c_entry {w0 : World} {m : Mem} {ip it : Nat} {ts : List (Tk × Nat)} {s : PS} {Q : Value → Mem → Prop} (h : PsAt m ip it ts s) (hk : s.k < ts.length) (hl : ts.length ≤ 1000000) (hE : EndOk ts)
    (hq : ∀ m', Kept ip m m' → PsAt m' ip it ts (entryF ts s).2 → Q (.agg ⟨(entryF ts s).1.cells⟩) m') : AbC Tryd.prog w0 30 [.pointer (some ⟨ip, 0, none⟩)] m Q := by
  refine AbC_fn ok30 (by simp) ?_
  simp -implicitDefEqProofs (disch := first | assumption | (simp only [wnA]; done) | (simp only [wnA]; omega) | omega | fail) [rc30, ro30, wkA, retV, stabOk, dC, ev, fillD, pickCells, putAt, bnd, slD, List.getElem?_cons_zero, List.getElem?_cons_succ, dR.eq_20, Mem.cell, Mem.row, wmA]
  obtain ⟨b, hb⟩ : ∃ b, m.push (.own [.string ⟨#[]⟩, .int .i64 0, .int .i64 0, .int .u32 0, .int .i64 0] 36) = b := ⟨_, rfl⟩
  have oB : Old m b := by subst hb; exact (Old.refl m).push _
  have g2 : b.get m.next = .own [.string ⟨#[]⟩, .int .i64 0, .int .i64 0, .int .u32 0, .int .i64 0] 36 := by subst hb; rw [Mem.push_same]
  have nB : b.next = m.next + 1 := by subst hb; rfl
  simp only [hb]
  clear hb
  have pB := h.old oB
  have hip := h.2.2.1
  have hit := h.2.2.2.1
  have KB : Kept ip m b := oB.kept
  refine c_take (kd := 1) (tx := [105, 109, 97, 103, 101]) pB hk hl fun m0 k0 p0 => ?_
  have K0 := takeF_k (kd := 1) (tx := [105, 109, 97, 103, 101]) hE hk (by decide)
  generalize hr0 : takeF ts 1 [105, 109, 97, 103, 101] s = r0 at *
  obtain ⟨⟨⟨kd0, tx0, vl0⟩, at0⟩, s0⟩ := r0
  simp only at p0 K0
  have N0 := k0.1
  have g2_0 := (k0.2 m.next (by omega) (by omega)).trans g2
  have KB0 := KB.trans k0
  simp -implicitDefEqProofs (disch := first | assumption | (simp only [wnA]; done) | (simp only [wnA]; omega) | omega | fail) [wkA, retV, stabOk, dC, ev, fillD, pickCells, putAt, bnd, slD, List.getElem?_cons_zero, List.getElem?_cons_succ, dR.eq_20, Mem.cell, Mem.row, wmA, cellP_mk]
  refine c_take (kd := 3) (tx := []) p0 K0 hl fun m1 k1 p1 => ?_
  have K1 := takeF_k (kd := 3) (tx := []) hE K0 (by decide)
  generalize hr1 : takeF ts 3 [] s0 = r1 at *
  obtain ⟨⟨⟨kd1, tx1, vl1⟩, at1⟩, s1⟩ := r1
  simp only at p1 K1
  have N1 := k1.1
  have g2_1 := (k1.2 m.next (by omega) (by omega)).trans g2_0
  have KB1 := KB0.trans k1
  simp -implicitDefEqProofs (disch := first | assumption | (simp only [wnA]; done) | (simp only [wnA]; omega) | omega | fail) [wkA, retV, stabOk, dC, ev, fillD, pickCells, putAt, bnd, slD, List.getElem?_cons_zero, List.getElem?_cons_succ, dR.eq_20, Mem.cell, Mem.row, wmA, cellP_mk]
  refine SK_st (i := m1.next) (o := 0) (by simp [wkA, retV, stabOk, dC, ev, fillD, pickCells, putAt, bnd, slD, List.getElem?_cons_zero, List.getElem?_cons_succ, dR.eq_20]) (e := 36) (by simp -implicitDefEqProofs (disch := first | assumption | (simp only [wnA]; done) | (simp only [wnA]; omega) | omega | fail) [Mem.cell, Mem.row, wmA]; rfl) (by simp) (by simp [wkA, retV, stabOk, dC, ev, fillD, pickCells, putAt, bnd, slD, List.getElem?_cons_zero, List.getElem?_cons_succ, dR.eq_20]) (by simp [wkA, retV, stabOk, dC, ev, fillD, pickCells, putAt, bnd, slD, List.getElem?_cons_zero, List.getElem?_cons_succ, dR.eq_20, oneC]) ?_
  simp -implicitDefEqProofs (disch := first | assumption | (simp only [wnA]; done) | (simp only [wnA]; omega) | omega | fail) [wkA, retV, stabOk, dC, ev, fillD, pickCells, putAt, bnd, slD, List.getElem?_cons_zero, List.getElem?_cons_succ, dR.eq_20, Mem.cell, Mem.row, wmA]
  obtain ⟨M1, hM1, KB1', p1', g3_1', hk1, nM1⟩ := step_new (x := .own [.string ⟨⟨tx1⟩⟩, .int .i64 0, .int .i64 0, .int .u32 0, .int .i64 0] 36) (z := .own [.string ⟨#[]⟩, .int .i64 0, .int .i64 0, .int .u32 0, .int .i64 0] 36) KB1 p1 hip hit
  have g2_1' := (hk1 m.next (by omega)).trans g2_1
  simp only [hM1]
  obtain ⟨i3, hi3⟩ : ∃ i3, m1.next = i3 := ⟨_, rfl⟩
  simp only [hi3] at *
  refine c_take (kd := 1) (tx := [97, 116]) p1' K1 hl fun m2 k2 p2 => ?_
  have K2 := takeF_k (kd := 1) (tx := [97, 116]) hE K1 (by decide)
  generalize hr2 : takeF ts 1 [97, 116] s1 = r2 at *
  obtain ⟨⟨⟨kd2, tx2, vl2⟩, at2⟩, s2⟩ := r2
  simp only at p2 K2
  have N2 := k2.1
  have g2_2 := (k2.2 m.next (by omega) (by omega)).trans g2_1'
  have g3_2 := (k2.2 i3 (by omega) (by omega)).trans g3_1'
  have KB2 := KB1'.trans k2
  simp -implicitDefEqProofs (disch := first | assumption | (simp only [wnA]; done) | (simp only [wnA]; omega) | omega | fail) [wkA, retV, stabOk, dC, ev, fillD, pickCells, putAt, bnd, slD, List.getElem?_cons_zero, List.getElem?_cons_succ, dR.eq_20, Mem.cell, Mem.row, wmA, cellP_mk]
  refine c_take (kd := 2) (tx := []) p2 K2 hl fun m3 k3 p3 => ?_
  have K3 := takeF_k (kd := 2) (tx := []) hE K2 (by decide)
  generalize hr3 : takeF ts 2 [] s2 = r3 at *
  obtain ⟨⟨⟨kd3, tx3, vl3⟩, at3⟩, s3⟩ := r3
  simp only at p3 K3
  have N3 := k3.1
  have g2_3 := (k3.2 m.next (by omega) (by omega)).trans g2_2
  have g3_3 := (k3.2 i3 (by omega) (by omega)).trans g3_2
  have KB3 := KB2.trans k3
  simp -implicitDefEqProofs (disch := first | assumption | (simp only [wnA]; done) | (simp only [wnA]; omega) | omega | fail) [wkA, retV, stabOk, dC, ev, fillD, pickCells, putAt, bnd, slD, List.getElem?_cons_zero, List.getElem?_cons_succ, dR.eq_20, Mem.cell, Mem.row, wmA, cellP_mk]
  refine SK_st (i := i3) (o := 1) (by simp [wkA, retV, stabOk, dC, ev, fillD, pickCells, putAt, bnd, slD, List.getElem?_cons_zero, List.getElem?_cons_succ, dR.eq_20]) (e := 36) g3_3 (by simp) (by simp [wkA, retV, stabOk, dC, ev, fillD, pickCells, putAt, bnd, slD, List.getElem?_cons_zero, List.getElem?_cons_succ, dR.eq_20]) (by simp [wkA, retV, stabOk, dC, ev, fillD, pickCells, putAt, bnd, slD, List.getElem?_cons_zero, List.getElem?_cons_succ, dR.eq_20, oneC]) ?_
  simp -implicitDefEqProofs (disch := first | assumption | (simp only [wnA]; done) | (simp only [wnA]; omega) | omega | fail) [wkA, retV, stabOk, dC, ev, fillD, pickCells, putAt, bnd, slD, List.getElem?_cons_zero, List.getElem?_cons_succ, dR.eq_20, Mem.cell, Mem.row, wmA]
  obtain ⟨M3, hM3, KB3', p3', g3_3', hk3, nM3⟩ := step_set (x := .own [.string ⟨⟨tx1⟩⟩, .int .i64 vl3, .int .i64 0, .int .u32 0, .int .i64 0] 36) (i3 := i3) KB3 p3 (by omega) hip hit
  have g2_3' := (hk3 m.next (by omega)).trans g2_3
  simp only [hM3]
  refine c_take (kd := 1) (tx := [115, 105, 122, 101]) p3' K3 hl fun m4 k4 p4 => ?_
  have K4 := takeF_k (kd := 1) (tx := [115, 105, 122, 101]) hE K3 (by decide)
  generalize hr4 : takeF ts 1 [115, 105, 122, 101] s3 = r4 at *
  obtain ⟨⟨⟨kd4, tx4, vl4⟩, at4⟩, s4⟩ := r4
  simp only at p4 K4
  have N4 := k4.1
  have g2_4 := (k4.2 m.next (by omega) (by omega)).trans g2_3'
  have g3_4 := (k4.2 i3 (by omega) (by omega)).trans g3_3'
  have KB4 := KB3'.trans k4
  simp -implicitDefEqProofs (disch := first | assumption | (simp only [wnA]; done) | (simp only [wnA]; omega) | omega | fail) [wkA, retV, stabOk, dC, ev, fillD, pickCells, putAt, bnd, slD, List.getElem?_cons_zero, List.getElem?_cons_succ, dR.eq_20, Mem.cell, Mem.row, wmA, cellP_mk]
  refine c_take (kd := 2) (tx := []) p4 K4 hl fun m5 k5 p5 => ?_
  have K5 := takeF_k (kd := 2) (tx := []) hE K4 (by decide)
  generalize hr5 : takeF ts 2 [] s4 = r5 at *
  obtain ⟨⟨⟨kd5, tx5, vl5⟩, at5⟩, s5⟩ := r5
  simp only at p5 K5
  have N5 := k5.1
  have g2_5 := (k5.2 m.next (by omega) (by omega)).trans g2_4
  have g3_5 := (k5.2 i3 (by omega) (by omega)).trans g3_4
  have KB5 := KB4.trans k5
  simp -implicitDefEqProofs (disch := first | assumption | (simp only [wnA]; done) | (simp only [wnA]; omega) | omega | fail) [wkA, retV, stabOk, dC, ev, fillD, pickCells, putAt, bnd, slD, List.getElem?_cons_zero, List.getElem?_cons_succ, dR.eq_20, Mem.cell, Mem.row, wmA, cellP_mk]
  refine SK_st (i := i3) (o := 2) (by simp [wkA, retV, stabOk, dC, ev, fillD, pickCells, putAt, bnd, slD, List.getElem?_cons_zero, List.getElem?_cons_succ, dR.eq_20]) (e := 36) g3_5 (by simp) (by simp [wkA, retV, stabOk, dC, ev, fillD, pickCells, putAt, bnd, slD, List.getElem?_cons_zero, List.getElem?_cons_succ, dR.eq_20]) (by simp [wkA, retV, stabOk, dC, ev, fillD, pickCells, putAt, bnd, slD, List.getElem?_cons_zero, List.getElem?_cons_succ, dR.eq_20, oneC]) ?_
  simp -implicitDefEqProofs (disch := first | assumption | (simp only [wnA]; done) | (simp only [wnA]; omega) | omega | fail) [wkA, retV, stabOk, dC, ev, fillD, pickCells, putAt, bnd, slD, List.getElem?_cons_zero, List.getElem?_cons_succ, dR.eq_20, Mem.cell, Mem.row, wmA]
  obtain ⟨M5, hM5, KB5', p5', g3_5', hk5, nM5⟩ := step_set (x := .own [.string ⟨⟨tx1⟩⟩, .int .i64 vl3, .int .i64 vl5, .int .u32 0, .int .i64 0] 36) (i3 := i3) KB5 p5 (by omega) hip hit
  have g2_5' := (hk5 m.next (by omega)).trans g2_5
  simp only [hM5]
  refine c_take (kd := 1) (tx := [112, 114, 105, 110, 116]) p5' K5 hl fun m6 k6 p6 => ?_
  have K6 := takeF_k (kd := 1) (tx := [112, 114, 105, 110, 116]) hE K5 (by decide)
  generalize hr6 : takeF ts 1 [112, 114, 105, 110, 116] s5 = r6 at *
  obtain ⟨⟨⟨kd6, tx6, vl6⟩, at6⟩, s6⟩ := r6
  simp only at p6 K6
  have N6 := k6.1
  have g2_6 := (k6.2 m.next (by omega) (by omega)).trans g2_5'
  have g3_6 := (k6.2 i3 (by omega) (by omega)).trans g3_5'
  have KB6 := KB5'.trans k6
  simp -implicitDefEqProofs (disch := first | assumption | (simp only [wnA]; done) | (simp only [wnA]; omega) | omega | fail) [wkA, retV, stabOk, dC, ev, fillD, pickCells, putAt, bnd, slD, List.getElem?_cons_zero, List.getElem?_cons_succ, dR.eq_20, Mem.cell, Mem.row, wmA, cellP_mk]
  refine c_take (kd := 2) (tx := []) p6 K6 hl fun m7 k7 p7 => ?_
  have K7 := takeF_k (kd := 2) (tx := []) hE K6 (by decide)
  generalize hr7 : takeF ts 2 [] s6 = r7 at *
  obtain ⟨⟨⟨kd7, tx7, vl7⟩, at7⟩, s7⟩ := r7
  simp only at p7 K7
  have N7 := k7.1
  have g2_7 := (k7.2 m.next (by omega) (by omega)).trans g2_6
  have g3_7 := (k7.2 i3 (by omega) (by omega)).trans g3_6
  have KB7 := KB6.trans k7
  simp -implicitDefEqProofs (disch := first | assumption | (simp only [wnA]; done) | (simp only [wnA]; omega) | omega | fail) [wkA, retV, stabOk, dC, ev, fillD, pickCells, putAt, bnd, slD, List.getElem?_cons_zero, List.getElem?_cons_succ, dR.eq_20, Mem.cell, Mem.row, wmA, cellP_mk]
  refine SK_st (i := i3) (o := 3) (by simp [wkA, retV, stabOk, dC, ev, fillD, pickCells, putAt, bnd, slD, List.getElem?_cons_zero, List.getElem?_cons_succ, dR.eq_20]) (e := 36) g3_7 (by simp) (by simp [wkA, retV, stabOk, dC, ev, fillD, pickCells, putAt, bnd, slD, List.getElem?_cons_zero, List.getElem?_cons_succ, dR.eq_20]) (by simp [wkA, retV, stabOk, dC, ev, fillD, pickCells, putAt, bnd, slD, List.getElem?_cons_zero, List.getElem?_cons_succ, dR.eq_20, oneC]) ?_
  simp -implicitDefEqProofs (disch := first | assumption | (simp only [wnA]; done) | (simp only [wnA]; omega) | omega | fail) [wkA, retV, stabOk, dC, ev, fillD, pickCells, putAt, bnd, slD, List.getElem?_cons_zero, List.getElem?_cons_succ, dR.eq_20, Mem.cell, Mem.row, wmA]
  obtain ⟨M7, hM7, KB7', p7', g3_7', hk7, nM7⟩ := step_set (x := .own [.string ⟨⟨tx1⟩⟩, .int .i64 vl3, .int .i64 vl5, .int .u32 (IntKind.u32.wrap vl7), .int .i64 0] 36) (i3 := i3) KB7 p7 (by omega) hip hit
  have g2_7' := (hk7 m.next (by omega)).trans g2_7
  simp only [hM7]
  refine c_take (kd := 1) (tx := [98, 121]) p7' K7 hl fun m8 k8 p8 => ?_
  have K8 := takeF_k (kd := 1) (tx := [98, 121]) hE K7 (by decide)
  generalize hr8 : takeF ts 1 [98, 121] s7 = r8 at *
  obtain ⟨⟨⟨kd8, tx8, vl8⟩, at8⟩, s8⟩ := r8
  simp only at p8 K8
  have N8 := k8.1
  have g2_8 := (k8.2 m.next (by omega) (by omega)).trans g2_7'
  have g3_8 := (k8.2 i3 (by omega) (by omega)).trans g3_7'
  have KB8 := KB7'.trans k8
  simp -implicitDefEqProofs (disch := first | assumption | (simp only [wnA]; done) | (simp only [wnA]; omega) | omega | fail) [wkA, retV, stabOk, dC, ev, fillD, pickCells, putAt, bnd, slD, List.getElem?_cons_zero, List.getElem?_cons_succ, dR.eq_20, Mem.cell, Mem.row, wmA, cellP_mk]
  refine c_take (kd := 1) (tx := []) p8 K8 hl fun m9 k9 p9 => ?_
  have K9 := takeF_k (kd := 1) (tx := []) hE K8 (by decide)
  generalize hr9 : takeF ts 1 [] s8 = r9 at *
  obtain ⟨⟨⟨kd9, tx9, vl9⟩, at9⟩, s9⟩ := r9
  simp only at p9 K9
  have N9 := k9.1
  have g2_9 := (k9.2 m.next (by omega) (by omega)).trans g2_8
  have g3_9 := (k9.2 i3 (by omega) (by omega)).trans g3_8
  have KB9 := KB8.trans k9
  simp -implicitDefEqProofs (disch := first | assumption | (simp only [wnA]; done) | (simp only [wnA]; omega) | omega | fail) [wkA, retV, stabOk, dC, ev, fillD, pickCells, putAt, bnd, slD, List.getElem?_cons_zero, List.getElem?_cons_succ, dR.eq_20, Mem.cell, Mem.row, wmA, cellP_mk]
  refine SK_st (i := m9.next) (o := 0) (by simp [wkA, retV, stabOk, dC, ev, fillD, pickCells, putAt, bnd, slD, List.getElem?_cons_zero, List.getElem?_cons_succ, dR.eq_20]) (e := 78) (by simp -implicitDefEqProofs (disch := first | assumption | (simp only [wnA]; done) | (simp only [wnA]; omega) | omega | fail) [Mem.cell, Mem.row, wmA]; rfl) (by simp) (by simp [wkA, retV, stabOk, dC, ev, fillD, pickCells, putAt, bnd, slD, List.getElem?_cons_zero, List.getElem?_cons_succ, dR.eq_20]) (by simp [wkA, retV, stabOk, dC, ev, fillD, pickCells, putAt, bnd, slD, List.getElem?_cons_zero, List.getElem?_cons_succ, dR.eq_20, oneC]) ?_
  simp -implicitDefEqProofs (disch := first | assumption | (simp only [wnA]; done) | (simp only [wnA]; omega) | omega | fail) [wkA, retV, stabOk, dC, ev, fillD, pickCells, putAt, bnd, slD, List.getElem?_cons_zero, List.getElem?_cons_succ, dR.eq_20, Mem.cell, Mem.row, wmA]
  obtain ⟨M9, hM9, KB9', p9', g4_9', hk9, nM9⟩ := step_new (x := .own [.int .i64 kd9, .string ⟨⟨tx9⟩⟩, .int .i64 vl9, .int .i64 (at9 : Int)] 78) (z := .own [.int .i64 0, .string ⟨#[]⟩, .int .i64 0, .int .i64 0] 78) KB9 p9 hip hit
  have g2_9' := (hk9 m.next (by omega)).trans g2_9
  have g3_9' := (hk9 i3 (by omega)).trans g3_9
  simp only [hM9]
  obtain ⟨i4, hi4⟩ : ∃ i4, m9.next = i4 := ⟨_, rfl⟩
  simp only [hi4] at *
  refine c_Ways ?_
  simp -implicitDefEqProofs (disch := first | assumption | (simp only [wnA]; done) | (simp only [wnA]; omega) | omega | fail) [wkA, retV, stabOk, dC, ev, fillD, pickCells, putAt, bnd, slD, List.getElem?_cons_zero, List.getElem?_cons_succ, dR.eq_20, Mem.cell, Mem.row, wmA]
  obtain ⟨MW, hMW⟩ : ∃ MW, M9.push (.own [.string ⟨⟨wayL 0⟩⟩, .string ⟨⟨wayL 1⟩⟩, .string ⟨⟨wayL 2⟩⟩, .string ⟨⟨wayL 3⟩⟩] 9) = MW := ⟨_, rfl⟩
  have oW : Old M9 MW := by subst hMW; exact (Old.refl M9).push _
  have gW : MW.get M9.next = .own [.string ⟨⟨wayL 0⟩⟩, .string ⟨⟨wayL 1⟩⟩, .string ⟨⟨wayL 2⟩⟩, .string ⟨⟨wayL 3⟩⟩] 9 := by subst hMW; rw [Mem.push_same]
  have g2W := (oW.2 m.next (by omega)).trans g2_9'
  have g3W := (oW.2 i3 (by omega)).trans g3_9'
  have g4W := (oW.2 i4 (by omega)).trans g4_9'
  have pW := p9'.old oW
  have KW := KB9'.trans oW.kept
  have nW := oW.1
  simp only [hMW]
  clear hMW
  have em : ∀ k, wayOf tx9 = some k → entryF ts s = (⟨⟨⟨tx1⟩⟩, vl3, vl5, IntKind.u32.wrap vl7, (k : Int)⟩, (takeF ts 4 [59] s9).2) := fun k hk => by
    simp only [entryF, hr0, hr1, hr2, hr3, hr4, hr5, hr6, hr7, hr8, hr9, hk]
  have en : wayOf tx9 = none → entryF ts s = (⟨⟨⟨tx1⟩⟩, vl3, vl5, IntKind.u32.wrap vl7, 0⟩, nameF ((⟨kd9, tx9, vl9⟩, at9), s9)) := fun hk => by
    simp only [entryF, hr0, hr1, hr2, hr3, hr4, hr5, hr6, hr7, hr8, hr9, hk]
  refine LoopW_of (fun k fr m' => ∃ j, j + k = 4 ∧ m' = MW ∧ fr 0 = .pointer (some ⟨ip, 0, none⟩) ∧ fr 2 = .pointer (some ⟨m.next, 0, none⟩) ∧ fr 3 = .pointer (some ⟨i3, 0, none⟩) ∧ fr 4 = .pointer (some ⟨i4, 0, none⟩) ∧ fr 36 = .slice (some ⟨M9.next, 0, none⟩) 4 1 ∧ fr 37 = .int .i64 4 ∧ fr 38 = .int .i64 (j : Nat) ∧ (∀ j' : Nat, j' < j → wayL j' ≠ tx9)) 4 ?_ ?_
  · exact ⟨0, by omega, rfl, by simp [frA_at], by simp, by simp, by simp, by simp, by simp, by simp, fun j' h => by omega⟩
  · rintro k fr m' K ⟨j, hj, rfl, f0, f2, f3, f4, f36, f37, f38, hw⟩ hK
    by_cases hjl : j < 4
    · have hc : j = 0 ∨ j = 1 ∨ j = 2 ∨ j = 3 := by omega
      rcases hc with rfl | rfl | rfl | rfl
      · have hidx : sidx 1 (.slice (some ⟨M9.next, 0, none⟩) 4 1) (.int .i64 (0 : Int)) = some (.pointer (some ⟨M9.next, 0 + 0 * 1, none⟩)) := sidx_at (j := 0) (by omega)
        have f38 : fr 38 = .int .i64 0 := f38
        by_cases hm : tx9 = wayL 0
        · have hway : wayOf tx9 = some 0 := by
            
            unfold wayOf
            rw [if_pos hm]
          have em := em 0 hway
          have hm' : (tx9 == wayL 0) = true := by simp [hm]
          have hm2 : (wayL 0 == tx9) = true := by simp [hm]
          simp -implicitDefEqProofs (disch := first | assumption | (simp only [wnA]; done) | (simp only [wnA]; omega) | omega | fail) [wkA, retV, stabOk, dC, ev, fillD, pickCells, putAt, bnd, slD, List.getElem?_cons_zero, List.getElem?_cons_succ, dR.eq_20, Mem.cell, Mem.row, wmA, rc30_1, rc30_0, f0, f2, f3, f4, f36, f37, f38, hidx, gW, g4W, hm', hm2]
          refine SK_st (i := i3) (o := 4) (by simp [wkA, retV, stabOk, dC, ev, fillD, pickCells, putAt, bnd, slD, List.getElem?_cons_zero, List.getElem?_cons_succ, dR.eq_20]) (e := 36) g3W (by simp) (by simp [wkA, retV, stabOk, dC, ev, fillD, pickCells, putAt, bnd, slD, List.getElem?_cons_zero, List.getElem?_cons_succ, dR.eq_20]) (by simp [wkA, retV, stabOk, dC, ev, fillD, pickCells, putAt, bnd, slD, List.getElem?_cons_zero, List.getElem?_cons_succ, dR.eq_20, oneC]) ?_
          simp -implicitDefEqProofs (disch := first | assumption | (simp only [wnA]; done) | (simp only [wnA]; omega) | omega | fail) [wkA, retV, stabOk, dC, ev, fillD, pickCells, putAt, bnd, slD, List.getElem?_cons_zero, List.getElem?_cons_succ, dR.eq_20, Mem.cell, Mem.row, wmA, f0]
          obtain ⟨MX, hMX, KX, pX, g3X, hkX, nMX⟩ := step_set (x := .own [.string ⟨⟨tx1⟩⟩, .int .i64 vl3, .int .i64 vl5, .int .u32 (IntKind.u32.wrap vl7), .int .i64 0] 36) (i3 := i3) KW pW (by omega) hip hit
          have g2X := (hkX m.next (by omega)).trans g2W
          simp only [hMX]
          refine c_take (kd := 4) (tx := [59]) pX K9 hl fun m10 k10 p10 => ?_
          have g3x := (k10.2 i3 (by omega) (by omega)).trans g3X
          have g2x := (k10.2 m.next (by omega) (by omega)).trans g2X
          simp -implicitDefEqProofs (disch := first | assumption | (simp only [wnA]; done) | (simp only [wnA]; omega) | omega | fail) [wkA, retV, stabOk, dC, ev, fillD, pickCells, putAt, bnd, slD, List.getElem?_cons_zero, List.getElem?_cons_succ, dR.eq_20, Mem.cell, Mem.row, wmA, f2, f3, g3x]
          refine SK_st (i := m.next) (o := 0) (by simp [wkA, retV, stabOk, dC, ev, fillD, pickCells, putAt, bnd, slD, List.getElem?_cons_zero, List.getElem?_cons_succ, dR.eq_20, f2]) (e := 36) g2x (by simp) (by simp [wkA, retV, stabOk, dC, ev, fillD, pickCells, putAt, bnd, slD, List.getElem?_cons_zero, List.getElem?_cons_succ, dR.eq_20]) (by simp [wkA, retV, stabOk, dC, ev, fillD, pickCells, putAt, bnd, slD, List.getElem?_cons_zero, List.getElem?_cons_succ, dR.eq_20, oneC]) ?_
          simp -implicitDefEqProofs (disch := first | assumption | (simp only [wnA]; done) | (simp only [wnA]; omega) | omega | fail) [wkA, retV, stabOk, dC, ev, fillD, pickCells, putAt, bnd, slD, List.getElem?_cons_zero, List.getElem?_cons_succ, dR.eq_20, Mem.cell, Mem.row, wmA, f2]
          obtain ⟨MY, hMY, KY, pY, g3Y, hkY, nMY⟩ := step_set (x := .own [.string ⟨⟨tx1⟩⟩, .int .i64 vl3, .int .i64 vl5, .int .u32 (IntKind.u32.wrap vl7), .int .i64 0] 36) (i3 := m.next) (KX.trans k10) p10 (by omega) hip hit
          simp only [hMY]
          rw [em] at hq
          exact hq MY KY pY
        · have hm' : (tx9 == wayL 0) = false := by simp [hm]
          have hm2 : (wayL 0 == tx9) = false := by simp; exact fun e => hm e.symm
          simp -implicitDefEqProofs (disch := first | assumption | (simp only [wnA]; done) | (simp only [wnA]; omega) | omega | fail) [wkA, retV, stabOk, dC, ev, fillD, pickCells, putAt, bnd, slD, List.getElem?_cons_zero, List.getElem?_cons_succ, dR.eq_20, Mem.cell, Mem.row, wmA, rc30_1, rc30_0, f0, f2, f3, f4, f36, f37, f38, hidx, gW, g4W, hm', hm2]
          refine hK (k - 1) _ _ (by omega) ⟨1, by omega, rfl, by simp [f0], by simp [f2], by simp [f3], by simp [f4], by simp [f36], by simp [f37], by simp; decide, fun j' h => ?_⟩
          rcases Nat.lt_or_ge j' 0 with h' | h'
          · exact hw j' h'
          · obtain rfl : j' = 0 := by omega
            exact fun e => hm e.symm
      · have hidx : sidx 1 (.slice (some ⟨M9.next, 0, none⟩) 4 1) (.int .i64 (1 : Int)) = some (.pointer (some ⟨M9.next, 0 + 1 * 1, none⟩)) := sidx_at (j := 1) (by omega)
        have f38 : fr 38 = .int .i64 1 := f38
        by_cases hm : tx9 = wayL 1
        · have hway : wayOf tx9 = some 1 := by
            have d0 := hw 0 (by omega);
            unfold wayOf
            rw [if_neg (fun e => d0 e.symm), if_pos hm]
          have em := em 1 hway
          have hm' : (tx9 == wayL 1) = true := by simp [hm]
          have hm2 : (wayL 1 == tx9) = true := by simp [hm]
          simp -implicitDefEqProofs (disch := first | assumption | (simp only [wnA]; done) | (simp only [wnA]; omega) | omega | fail) [wkA, retV, stabOk, dC, ev, fillD, pickCells, putAt, bnd, slD, List.getElem?_cons_zero, List.getElem?_cons_succ, dR.eq_20, Mem.cell, Mem.row, wmA, rc30_1, rc30_0, f0, f2, f3, f4, f36, f37, f38, hidx, gW, g4W, hm', hm2]
          refine SK_st (i := i3) (o := 4) (by simp [wkA, retV, stabOk, dC, ev, fillD, pickCells, putAt, bnd, slD, List.getElem?_cons_zero, List.getElem?_cons_succ, dR.eq_20]) (e := 36) g3W (by simp) (by simp [wkA, retV, stabOk, dC, ev, fillD, pickCells, putAt, bnd, slD, List.getElem?_cons_zero, List.getElem?_cons_succ, dR.eq_20]) (by simp [wkA, retV, stabOk, dC, ev, fillD, pickCells, putAt, bnd, slD, List.getElem?_cons_zero, List.getElem?_cons_succ, dR.eq_20, oneC]) ?_
          simp -implicitDefEqProofs (disch := first | assumption | (simp only [wnA]; done) | (simp only [wnA]; omega) | omega | fail) [wkA, retV, stabOk, dC, ev, fillD, pickCells, putAt, bnd, slD, List.getElem?_cons_zero, List.getElem?_cons_succ, dR.eq_20, Mem.cell, Mem.row, wmA, f0]
          obtain ⟨MX, hMX, KX, pX, g3X, hkX, nMX⟩ := step_set (x := .own [.string ⟨⟨tx1⟩⟩, .int .i64 vl3, .int .i64 vl5, .int .u32 (IntKind.u32.wrap vl7), .int .i64 1] 36) (i3 := i3) KW pW (by omega) hip hit
          have g2X := (hkX m.next (by omega)).trans g2W
          simp only [hMX]
          refine c_take (kd := 4) (tx := [59]) pX K9 hl fun m10 k10 p10 => ?_
          have g3x := (k10.2 i3 (by omega) (by omega)).trans g3X
          have g2x := (k10.2 m.next (by omega) (by omega)).trans g2X
          simp -implicitDefEqProofs (disch := first | assumption | (simp only [wnA]; done) | (simp only [wnA]; omega) | omega | fail) [wkA, retV, stabOk, dC, ev, fillD, pickCells, putAt, bnd, slD, List.getElem?_cons_zero, List.getElem?_cons_succ, dR.eq_20, Mem.cell, Mem.row, wmA, f2, f3, g3x]
          refine SK_st (i := m.next) (o := 0) (by simp [wkA, retV, stabOk, dC, ev, fillD, pickCells, putAt, bnd, slD, List.getElem?_cons_zero, List.getElem?_cons_succ, dR.eq_20, f2]) (e := 36) g2x (by simp) (by simp [wkA, retV, stabOk, dC, ev, fillD, pickCells, putAt, bnd, slD, List.getElem?_cons_zero, List.getElem?_cons_succ, dR.eq_20]) (by simp [wkA, retV, stabOk, dC, ev, fillD, pickCells, putAt, bnd, slD, List.getElem?_cons_zero, List.getElem?_cons_succ, dR.eq_20, oneC]) ?_
          simp -implicitDefEqProofs (disch := first | assumption | (simp only [wnA]; done) | (simp only [wnA]; omega) | omega | fail) [wkA, retV, stabOk, dC, ev, fillD, pickCells, putAt, bnd, slD, List.getElem?_cons_zero, List.getElem?_cons_succ, dR.eq_20, Mem.cell, Mem.row, wmA, f2]
          obtain ⟨MY, hMY, KY, pY, g3Y, hkY, nMY⟩ := step_set (x := .own [.string ⟨⟨tx1⟩⟩, .int .i64 vl3, .int .i64 vl5, .int .u32 (IntKind.u32.wrap vl7), .int .i64 1] 36) (i3 := m.next) (KX.trans k10) p10 (by omega) hip hit
          simp only [hMY]
          rw [em] at hq
          exact hq MY KY pY
        · have hm' : (tx9 == wayL 1) = false := by simp [hm]
          have hm2 : (wayL 1 == tx9) = false := by simp; exact fun e => hm e.symm
          simp -implicitDefEqProofs (disch := first | assumption | (simp only [wnA]; done) | (simp only [wnA]; omega) | omega | fail) [wkA, retV, stabOk, dC, ev, fillD, pickCells, putAt, bnd, slD, List.getElem?_cons_zero, List.getElem?_cons_succ, dR.eq_20, Mem.cell, Mem.row, wmA, rc30_1, rc30_0, f0, f2, f3, f4, f36, f37, f38, hidx, gW, g4W, hm', hm2]
          refine hK (k - 1) _ _ (by omega) ⟨2, by omega, rfl, by simp [f0], by simp [f2], by simp [f3], by simp [f4], by simp [f36], by simp [f37], by simp; decide, fun j' h => ?_⟩
          rcases Nat.lt_or_ge j' 1 with h' | h'
          · exact hw j' h'
          · obtain rfl : j' = 1 := by omega
            exact fun e => hm e.symm
      · have hidx : sidx 1 (.slice (some ⟨M9.next, 0, none⟩) 4 1) (.int .i64 (2 : Int)) = some (.pointer (some ⟨M9.next, 0 + 2 * 1, none⟩)) := sidx_at (j := 2) (by omega)
        have f38 : fr 38 = .int .i64 2 := f38
        by_cases hm : tx9 = wayL 2
        · have hway : wayOf tx9 = some 2 := by
            have d0 := hw 0 (by omega); have d1 := hw 1 (by omega);
            unfold wayOf
            rw [if_neg (fun e => d0 e.symm), if_neg (fun e => d1 e.symm), if_pos hm]
          have em := em 2 hway
          have hm' : (tx9 == wayL 2) = true := by simp [hm]
          have hm2 : (wayL 2 == tx9) = true := by simp [hm]
          simp -implicitDefEqProofs (disch := first | assumption | (simp only [wnA]; done) | (simp only [wnA]; omega) | omega | fail) [wkA, retV, stabOk, dC, ev, fillD, pickCells, putAt, bnd, slD, List.getElem?_cons_zero, List.getElem?_cons_succ, dR.eq_20, Mem.cell, Mem.row, wmA, rc30_1, rc30_0, f0, f2, f3, f4, f36, f37, f38, hidx, gW, g4W, hm', hm2]
          refine SK_st (i := i3) (o := 4) (by simp [wkA, retV, stabOk, dC, ev, fillD, pickCells, putAt, bnd, slD, List.getElem?_cons_zero, List.getElem?_cons_succ, dR.eq_20]) (e := 36) g3W (by simp) (by simp [wkA, retV, stabOk, dC, ev, fillD, pickCells, putAt, bnd, slD, List.getElem?_cons_zero, List.getElem?_cons_succ, dR.eq_20]) (by simp [wkA, retV, stabOk, dC, ev, fillD, pickCells, putAt, bnd, slD, List.getElem?_cons_zero, List.getElem?_cons_succ, dR.eq_20, oneC]) ?_
          simp -implicitDefEqProofs (disch := first | assumption | (simp only [wnA]; done) | (simp only [wnA]; omega) | omega | fail) [wkA, retV, stabOk, dC, ev, fillD, pickCells, putAt, bnd, slD, List.getElem?_cons_zero, List.getElem?_cons_succ, dR.eq_20, Mem.cell, Mem.row, wmA, f0]
          obtain ⟨MX, hMX, KX, pX, g3X, hkX, nMX⟩ := step_set (x := .own [.string ⟨⟨tx1⟩⟩, .int .i64 vl3, .int .i64 vl5, .int .u32 (IntKind.u32.wrap vl7), .int .i64 2] 36) (i3 := i3) KW pW (by omega) hip hit
          have g2X := (hkX m.next (by omega)).trans g2W
          simp only [hMX]
          refine c_take (kd := 4) (tx := [59]) pX K9 hl fun m10 k10 p10 => ?_
          have g3x := (k10.2 i3 (by omega) (by omega)).trans g3X
          have g2x := (k10.2 m.next (by omega) (by omega)).trans g2X
          simp -implicitDefEqProofs (disch := first | assumption | (simp only [wnA]; done) | (simp only [wnA]; omega) | omega | fail) [wkA, retV, stabOk, dC, ev, fillD, pickCells, putAt, bnd, slD, List.getElem?_cons_zero, List.getElem?_cons_succ, dR.eq_20, Mem.cell, Mem.row, wmA, f2, f3, g3x]
          refine SK_st (i := m.next) (o := 0) (by simp [wkA, retV, stabOk, dC, ev, fillD, pickCells, putAt, bnd, slD, List.getElem?_cons_zero, List.getElem?_cons_succ, dR.eq_20, f2]) (e := 36) g2x (by simp) (by simp [wkA, retV, stabOk, dC, ev, fillD, pickCells, putAt, bnd, slD, List.getElem?_cons_zero, List.getElem?_cons_succ, dR.eq_20]) (by simp [wkA, retV, stabOk, dC, ev, fillD, pickCells, putAt, bnd, slD, List.getElem?_cons_zero, List.getElem?_cons_succ, dR.eq_20, oneC]) ?_
          simp -implicitDefEqProofs (disch := first | assumption | (simp only [wnA]; done) | (simp only [wnA]; omega) | omega | fail) [wkA, retV, stabOk, dC, ev, fillD, pickCells, putAt, bnd, slD, List.getElem?_cons_zero, List.getElem?_cons_succ, dR.eq_20, Mem.cell, Mem.row, wmA, f2]
          obtain ⟨MY, hMY, KY, pY, g3Y, hkY, nMY⟩ := step_set (x := .own [.string ⟨⟨tx1⟩⟩, .int .i64 vl3, .int .i64 vl5, .int .u32 (IntKind.u32.wrap vl7), .int .i64 2] 36) (i3 := m.next) (KX.trans k10) p10 (by omega) hip hit
          simp only [hMY]
          rw [em] at hq
          exact hq MY KY pY
        · have hm' : (tx9 == wayL 2) = false := by simp [hm]
          have hm2 : (wayL 2 == tx9) = false := by simp; exact fun e => hm e.symm
          simp -implicitDefEqProofs (disch := first | assumption | (simp only [wnA]; done) | (simp only [wnA]; omega) | omega | fail) [wkA, retV, stabOk, dC, ev, fillD, pickCells, putAt, bnd, slD, List.getElem?_cons_zero, List.getElem?_cons_succ, dR.eq_20, Mem.cell, Mem.row, wmA, rc30_1, rc30_0, f0, f2, f3, f4, f36, f37, f38, hidx, gW, g4W, hm', hm2]
          refine hK (k - 1) _ _ (by omega) ⟨3, by omega, rfl, by simp [f0], by simp [f2], by simp [f3], by simp [f4], by simp [f36], by simp [f37], by simp; decide, fun j' h => ?_⟩
          rcases Nat.lt_or_ge j' 2 with h' | h'
          · exact hw j' h'
          · obtain rfl : j' = 2 := by omega
            exact fun e => hm e.symm
      · have hidx : sidx 1 (.slice (some ⟨M9.next, 0, none⟩) 4 1) (.int .i64 (3 : Int)) = some (.pointer (some ⟨M9.next, 0 + 3 * 1, none⟩)) := sidx_at (j := 3) (by omega)
        have f38 : fr 38 = .int .i64 3 := f38
        by_cases hm : tx9 = wayL 3
        · have hway : wayOf tx9 = some 3 := by
            have d0 := hw 0 (by omega); have d1 := hw 1 (by omega); have d2 := hw 2 (by omega);
            unfold wayOf
            rw [if_neg (fun e => d0 e.symm), if_neg (fun e => d1 e.symm), if_neg (fun e => d2 e.symm), if_pos hm]
          have em := em 3 hway
          have hm' : (tx9 == wayL 3) = true := by simp [hm]
          have hm2 : (wayL 3 == tx9) = true := by simp [hm]
          simp -implicitDefEqProofs (disch := first | assumption | (simp only [wnA]; done) | (simp only [wnA]; omega) | omega | fail) [wkA, retV, stabOk, dC, ev, fillD, pickCells, putAt, bnd, slD, List.getElem?_cons_zero, List.getElem?_cons_succ, dR.eq_20, Mem.cell, Mem.row, wmA, rc30_1, rc30_0, f0, f2, f3, f4, f36, f37, f38, hidx, gW, g4W, hm', hm2]
          refine SK_st (i := i3) (o := 4) (by simp [wkA, retV, stabOk, dC, ev, fillD, pickCells, putAt, bnd, slD, List.getElem?_cons_zero, List.getElem?_cons_succ, dR.eq_20]) (e := 36) g3W (by simp) (by simp [wkA, retV, stabOk, dC, ev, fillD, pickCells, putAt, bnd, slD, List.getElem?_cons_zero, List.getElem?_cons_succ, dR.eq_20]) (by simp [wkA, retV, stabOk, dC, ev, fillD, pickCells, putAt, bnd, slD, List.getElem?_cons_zero, List.getElem?_cons_succ, dR.eq_20, oneC]) ?_
          simp -implicitDefEqProofs (disch := first | assumption | (simp only [wnA]; done) | (simp only [wnA]; omega) | omega | fail) [wkA, retV, stabOk, dC, ev, fillD, pickCells, putAt, bnd, slD, List.getElem?_cons_zero, List.getElem?_cons_succ, dR.eq_20, Mem.cell, Mem.row, wmA, f0]
          obtain ⟨MX, hMX, KX, pX, g3X, hkX, nMX⟩ := step_set (x := .own [.string ⟨⟨tx1⟩⟩, .int .i64 vl3, .int .i64 vl5, .int .u32 (IntKind.u32.wrap vl7), .int .i64 3] 36) (i3 := i3) KW pW (by omega) hip hit
          have g2X := (hkX m.next (by omega)).trans g2W
          simp only [hMX]
          refine c_take (kd := 4) (tx := [59]) pX K9 hl fun m10 k10 p10 => ?_
          have g3x := (k10.2 i3 (by omega) (by omega)).trans g3X
          have g2x := (k10.2 m.next (by omega) (by omega)).trans g2X
          simp -implicitDefEqProofs (disch := first | assumption | (simp only [wnA]; done) | (simp only [wnA]; omega) | omega | fail) [wkA, retV, stabOk, dC, ev, fillD, pickCells, putAt, bnd, slD, List.getElem?_cons_zero, List.getElem?_cons_succ, dR.eq_20, Mem.cell, Mem.row, wmA, f2, f3, g3x]
          refine SK_st (i := m.next) (o := 0) (by simp [wkA, retV, stabOk, dC, ev, fillD, pickCells, putAt, bnd, slD, List.getElem?_cons_zero, List.getElem?_cons_succ, dR.eq_20, f2]) (e := 36) g2x (by simp) (by simp [wkA, retV, stabOk, dC, ev, fillD, pickCells, putAt, bnd, slD, List.getElem?_cons_zero, List.getElem?_cons_succ, dR.eq_20]) (by simp [wkA, retV, stabOk, dC, ev, fillD, pickCells, putAt, bnd, slD, List.getElem?_cons_zero, List.getElem?_cons_succ, dR.eq_20, oneC]) ?_
          simp -implicitDefEqProofs (disch := first | assumption | (simp only [wnA]; done) | (simp only [wnA]; omega) | omega | fail) [wkA, retV, stabOk, dC, ev, fillD, pickCells, putAt, bnd, slD, List.getElem?_cons_zero, List.getElem?_cons_succ, dR.eq_20, Mem.cell, Mem.row, wmA, f2]
          obtain ⟨MY, hMY, KY, pY, g3Y, hkY, nMY⟩ := step_set (x := .own [.string ⟨⟨tx1⟩⟩, .int .i64 vl3, .int .i64 vl5, .int .u32 (IntKind.u32.wrap vl7), .int .i64 3] 36) (i3 := m.next) (KX.trans k10) p10 (by omega) hip hit
          simp only [hMY]
          rw [em] at hq
          exact hq MY KY pY
        · have hm' : (tx9 == wayL 3) = false := by simp [hm]
          have hm2 : (wayL 3 == tx9) = false := by simp; exact fun e => hm e.symm
          simp -implicitDefEqProofs (disch := first | assumption | (simp only [wnA]; done) | (simp only [wnA]; omega) | omega | fail) [wkA, retV, stabOk, dC, ev, fillD, pickCells, putAt, bnd, slD, List.getElem?_cons_zero, List.getElem?_cons_succ, dR.eq_20, Mem.cell, Mem.row, wmA, rc30_1, rc30_0, f0, f2, f3, f4, f36, f37, f38, hidx, gW, g4W, hm', hm2]
          refine hK (k - 1) _ _ (by omega) ⟨4, by omega, rfl, by simp [f0], by simp [f2], by simp [f3], by simp [f4], by simp [f36], by simp [f37], by simp; decide, fun j' h => ?_⟩
          rcases Nat.lt_or_ge j' 3 with h' | h'
          · exact hw j' h'
          · obtain rfl : j' = 3 := by omega
            exact fun e => hm e.symm
    · obtain rfl : j = 4 := by omega
      have hway : wayOf tx9 = none := by
        unfold wayOf
        rw [if_neg (fun e => hw 0 (by omega) e.symm), if_neg (fun e => hw 1 (by omega) e.symm), if_neg (fun e => hw 2 (by omega) e.symm), if_neg (fun e => hw 3 (by omega) e.symm)]
      have en := en hway
      have f38 : fr 38 = .int .i64 4 := f38
      cases he : s9.err with
      | some e =>
        have gp : m'.get ip = .own [.slice (some ⟨it, 0, none⟩) ts.length 4, .int .i64 (s9.k : Int), faultV e.1 e.2] 75 := by have := pW.1; rw [he] at this; exact this
        have hnf : nameF ((⟨kd9, tx9, vl9⟩, at9), s9) = s9 := by simp [nameF, he]
        simp -implicitDefEqProofs (disch := first | assumption | (simp only [wnA]; done) | (simp only [wnA]; omega) | omega | fail) [wkA, retV, stabOk, dC, ev, fillD, pickCells, putAt, bnd, slD, List.getElem?_cons_zero, List.getElem?_cons_succ, dR.eq_20, Mem.cell, Mem.row, wmA, rc30_1, rc30_3, rc30_2, f0, f2, f3, f4, f36, f37, f38, gp, faultV, g3W]
        refine SK_st (i := m.next) (o := 0) (by simp [wkA, retV, stabOk, dC, ev, fillD, pickCells, putAt, bnd, slD, List.getElem?_cons_zero, List.getElem?_cons_succ, dR.eq_20, f2]) (e := 36) g2W (by simp) (by simp [wkA, retV, stabOk, dC, ev, fillD, pickCells, putAt, bnd, slD, List.getElem?_cons_zero, List.getElem?_cons_succ, dR.eq_20]) (by simp [wkA, retV, stabOk, dC, ev, fillD, pickCells, putAt, bnd, slD, List.getElem?_cons_zero, List.getElem?_cons_succ, dR.eq_20, oneC]) ?_
        simp -implicitDefEqProofs (disch := first | assumption | (simp only [wnA]; done) | (simp only [wnA]; omega) | omega | fail) [wkA, retV, stabOk, dC, ev, fillD, pickCells, putAt, bnd, slD, List.getElem?_cons_zero, List.getElem?_cons_succ, dR.eq_20, Mem.cell, Mem.row, wmA, f2]
        obtain ⟨MY, hMY, KY, pY, g3Y, hkY, nMY⟩ := step_set (x := .own [.string ⟨⟨tx1⟩⟩, .int .i64 vl3, .int .i64 vl5, .int .u32 (IntKind.u32.wrap vl7), .int .i64 0] 36) (i3 := m.next) KW pW (by omega) hip hit
        simp only [hMY]
        rw [en, hnf] at hq
        exact hq MY KY pY
      | none =>
        have gp : m'.get ip = .own [.slice (some ⟨it, 0, none⟩) ts.length 4, .int .i64 (s9.k : Int), .nilIface] 75 := by have := pW.1; rw [he] at this; exact this
        have hnf : nameF ((⟨kd9, tx9, vl9⟩, at9), s9) = ⟨s9.k, some (3, at9)⟩ := by simp [nameF, he]
        simp -implicitDefEqProofs (disch := first | assumption | (simp only [wnA]; done) | (simp only [wnA]; omega) | omega | fail) [wkA, retV, stabOk, dC, ev, fillD, pickCells, putAt, bnd, slD, List.getElem?_cons_zero, List.getElem?_cons_succ, dR.eq_20, Mem.cell, Mem.row, wmA, rc30_1, rc30_3, rc30_2, f0, f2, f3, f4, f36, f37, f38, gp, g4W]
        refine c_Wrap (no := 3) (a := at9) ?_
        simp -implicitDefEqProofs (disch := first | assumption | (simp only [wnA]; done) | (simp only [wnA]; omega) | omega | fail) [wkA, retV, stabOk, dC, ev, fillD, pickCells, putAt, bnd, slD, List.getElem?_cons_zero, List.getElem?_cons_succ, dR.eq_20, Mem.cell, Mem.row, wmA, f0]
        refine SK_st (i := ip) (o := 2) (by simp [wkA, retV, stabOk, dC, ev, fillD, pickCells, putAt, bnd, slD, List.getElem?_cons_zero, List.getElem?_cons_succ, dR.eq_20, f0]) (e := 75) gp (by simp) (by simp [wkA, retV, stabOk, dC, ev, fillD, pickCells, putAt, bnd, slD, List.getElem?_cons_zero, List.getElem?_cons_succ, dR.eq_20, faultV]) (by simp [wkA, retV, stabOk, dC, ev, fillD, pickCells, putAt, bnd, slD, List.getElem?_cons_zero, List.getElem?_cons_succ, dR.eq_20, faultV, oneC]) ?_
        have n3 : i3 ≠ ip := by omega
        simp -implicitDefEqProofs (disch := first | assumption | (simp only [wnA]; done) | (simp only [wnA]; omega) | omega | fail) [wkA, retV, stabOk, dC, ev, fillD, pickCells, putAt, bnd, slD, List.getElem?_cons_zero, List.getElem?_cons_succ, dR.eq_20, Mem.cell, Mem.row, wmA, faultV, f3, g3W, n3]
        obtain ⟨MX, hMX⟩ : ∃ MX, m'.set ip (.own [.slice (some ⟨it, 0, none⟩) ts.length 4, .int .i64 (s9.k : Int), .iface 84 (.agg ⟨[.int .i64 3, .int .i64 (at9 : Int)]⟩)] 75) = MX := ⟨_, rfl⟩
        simp only [hMX]
        have KX : Kept ip m MX := by subst hMX; exact ⟨KW.1, fun i hi hn => by rw [Mem.set_other _ _ hn]; exact KW.2 i hi hn⟩
        have pX : PsAt MX ip it ts ⟨s9.k, some (3, at9)⟩ := by
          subst hMX
          exact ⟨by rw [Mem.set_same]; rfl, by rw [Mem.set_other _ _ (fun e => pW.2.2.2.2 e.symm)]; exact pW.2.1, pW.2.2.1, pW.2.2.2.1, pW.2.2.2.2⟩
        have g2X := (show MX.get m.next = m'.get m.next by subst hMX; exact Mem.set_other _ _ (by omega)).trans g2W
        refine SK_st (i := m.next) (o := 0) (by simp [wkA, retV, stabOk, dC, ev, fillD, pickCells, putAt, bnd, slD, List.getElem?_cons_zero, List.getElem?_cons_succ, dR.eq_20, f2]) (e := 36) g2X (by simp) (by simp [wkA, retV, stabOk, dC, ev, fillD, pickCells, putAt, bnd, slD, List.getElem?_cons_zero, List.getElem?_cons_succ, dR.eq_20]) (by simp [wkA, retV, stabOk, dC, ev, fillD, pickCells, putAt, bnd, slD, List.getElem?_cons_zero, List.getElem?_cons_succ, dR.eq_20, oneC]) ?_
        simp -implicitDefEqProofs (disch := first | assumption | (simp only [wnA]; done) | (simp only [wnA]; omega) | omega | fail) [wkA, retV, stabOk, dC, ev, fillD, pickCells, putAt, bnd, slD, List.getElem?_cons_zero, List.getElem?_cons_succ, dR.eq_20, Mem.cell, Mem.row, wmA, f2]
        obtain ⟨MY, hMY, KY, pY, g3Y, hkY, nMY⟩ := step_set (x := .own [.string ⟨⟨tx1⟩⟩, .int .i64 vl3, .int .i64 vl5, .int .u32 (IntKind.u32.wrap vl7), .int .i64 0] 36) (i3 := m.next) KX pX (by omega) hip hit
        simp only [hMY]
        rw [en, hnf] at hq
        exact hq MY KY pY
end Go.Proofs.YtgfkjldohilmkaaDoor.Ab
/- A manifest's text is read: the whole. -/
set_option linter.unusedVariables false
set_option linter.unusedSimpArgs false
namespace Go.Proofs.YtgfkjldohilmkaaDoor.Ab
open Go Go.RowKit
set_option maxHeartbeats 4000000
set_option maxRecDepth 100000

theorem takeF_none {ts : List (Tk × Nat)} {kd : Int} {tx : List UInt8} {s : PS} (h : (takeF ts kd tx s).2.err = none) : s.err = none ∧ misfit (ts.getD s.k tok0).1 kd tx = false ∧ takeF ts kd tx s = (ts.getD s.k tok0, ⟨s.k + 1, none⟩) := by
  rw [takeF_eq] at h ⊢
  obtain ⟨k, err⟩ := s
  cases hm : misfit (ts.getD k tok0).1 kd tx with
  | true =>
    simp only [hm, if_true] at h
    exfalso
    cases err <;> simp [failF, takeR] at h
  | false =>
    simp only [hm] at h ⊢
    cases err with
    | some e => simp [takeR] at h
    | none => exact ⟨rfl, trivial, by simp [takeR]⟩
theorem takeF_fit {ts : List (Tk × Nat)} {kd : Int} {tx : List UInt8} {k : Nat} (h : misfit (ts.getD k tok0).1 kd tx = false) : takeF ts kd tx ⟨k, none⟩ = (ts.getD k tok0, ⟨k + 1, none⟩) := by
  rw [takeF_eq]
  show takeR (ts.getD k tok0) (if misfit (ts.getD k tok0).1 kd tx = true then _ else _) = _
  rw [h]
  rfl
/-- An entry that is right: eleven tokens. -/
def tkF (ts : List (Tk × Nat)) (k : Nat) : Tk := (ts.getD k tok0).1
def Fits11 (ts : List (Tk × Nat)) (k w : Nat) : Prop :=
  misfit (tkF ts k) 1 [105, 109, 97, 103, 101] = false ∧ misfit (tkF ts (k + 1)) 3 [] = false ∧ misfit (tkF ts (k + 2)) 1 [97, 116] = false ∧ misfit (tkF ts (k + 3)) 2 [] = false ∧ misfit (tkF ts (k + 4)) 1 [115, 105, 122, 101] = false ∧ misfit (tkF ts (k + 5)) 2 [] = false ∧ misfit (tkF ts (k + 6)) 1 [112, 114, 105, 110, 116] = false ∧ misfit (tkF ts (k + 7)) 2 [] = false ∧ misfit (tkF ts (k + 8)) 1 [98, 121] = false ∧ misfit (tkF ts (k + 9)) 1 [] = false ∧ misfit (tkF ts (k + 10)) 4 [59] = false ∧ wayOf (tkF ts (k + 9)).tx = some w
def entT (ts : List (Tk × Nat)) (k w : Nat) : En := ⟨⟨⟨(tkF ts (k + 1)).tx⟩⟩, (tkF ts (k + 3)).vl, (tkF ts (k + 5)).vl, IntKind.u32.wrap (tkF ts (k + 7)).vl, (w : Int)⟩
theorem entryF_fit {ts : List (Tk × Nat)} {k w : Nat} (h : Fits11 ts k w) : entryF ts ⟨k, none⟩ = (entT ts k w, ⟨k + 11, none⟩) := by
  obtain ⟨h0, h1, h2, h3, h4, h5, h6, h7, h8, h9, h10, hw⟩ := h
  have hw' : wayOf (ts.getD (k + 9) tok0).1.tx = some w := hw
  simp only [entryF, takeF_fit h0, takeF_fit h1, takeF_fit h2, takeF_fit h3, takeF_fit h4, takeF_fit h5, takeF_fit h6, takeF_fit h7, takeF_fit h8, takeF_fit h9, takeF_fit h10, hw']
  rfl
theorem entryF_none {ts : List (Tk × Nat)} {s : PS} (h : (entryF ts s).2.err = none) : ∃ w, s = ⟨s.k, none⟩ ∧ Fits11 ts s.k w := by
  obtain ⟨k, err⟩ := s
  unfold entryF at h
  simp only at h
  have last : ∃ w, wayOf (takeF ts 1 [] (takeF ts 1 [98, 121] (takeF ts 2 [] (takeF ts 1 [112, 114, 105, 110, 116] (takeF ts 2 [] (takeF ts 1 [115, 105, 122, 101] (takeF ts 2 [] (takeF ts 1 [97, 116] (takeF ts 3 [] (takeF ts 1 [105, 109, 97, 103, 101] ⟨k, err⟩).2).2).2).2).2).2).2).2).2).1.1.tx = some w ∧ (takeF ts 4 [59] (takeF ts 1 [] (takeF ts 1 [98, 121] (takeF ts 2 [] (takeF ts 1 [112, 114, 105, 110, 116] (takeF ts 2 [] (takeF ts 1 [115, 105, 122, 101] (takeF ts 2 [] (takeF ts 1 [97, 116] (takeF ts 3 [] (takeF ts 1 [105, 109, 97, 103, 101] ⟨k, err⟩).2).2).2).2).2).2).2).2).2).2).2.err = none := by
    split at h
    · rename_i w hw; exact ⟨w, hw, h⟩
    · exfalso
      unfold nameF at h
      split at h
      · rename_i e he; rw [he] at h; cases h
      · cases h
  obtain ⟨w, hw, h⟩ := last
  refine ⟨w, ?_⟩
  obtain ⟨a, f10, e10⟩ := takeF_none h
  obtain ⟨a, f9, e9⟩ := takeF_none a
  obtain ⟨a, f8, e8⟩ := takeF_none a
  obtain ⟨a, f7, e7⟩ := takeF_none a
  obtain ⟨a, f6, e6⟩ := takeF_none a
  obtain ⟨a, f5, e5⟩ := takeF_none a
  obtain ⟨a, f4, e4⟩ := takeF_none a
  obtain ⟨a, f3, e3⟩ := takeF_none a
  obtain ⟨a, f2, e2⟩ := takeF_none a
  obtain ⟨a, f1, e1⟩ := takeF_none a
  obtain ⟨a, f0, e0⟩ := takeF_none a
  simp only [e0] at f1 e1 f2 e2 f3 e3 f4 e4 f5 e5 f6 e6 f7 e7 f8 e8 f9 e9 f10 e10 hw
  simp only [e1] at f2 e2 f3 e3 f4 e4 f5 e5 f6 e6 f7 e7 f8 e8 f9 e9 f10 e10 hw
  simp only [e2] at f3 e3 f4 e4 f5 e5 f6 e6 f7 e7 f8 e8 f9 e9 f10 e10 hw
  simp only [e3] at f4 e4 f5 e5 f6 e6 f7 e7 f8 e8 f9 e9 f10 e10 hw
  simp only [e4] at f5 e5 f6 e6 f7 e7 f8 e8 f9 e9 f10 e10 hw
  simp only [e5] at f6 e6 f7 e7 f8 e8 f9 e9 f10 e10 hw
  simp only [e6] at f7 e7 f8 e8 f9 e9 f10 e10 hw
  simp only [e7] at f8 e8 f9 e9 f10 e10 hw
  simp only [e8] at f9 e9 f10 e10 hw
  simp only [e9] at f10 e10 hw
  have a : err = none := a
  subst a
  exact ⟨rfl, f0, f1, f2, f3, f4, f5, f6, f7, f8, f9, f10, hw⟩
theorem nameF_k (w : (Tk × Nat) × PS) : (nameF w).k = w.2.k := by unfold nameF; cases w.2.err <;> rfl
theorem entryF_k {ts : List (Tk × Nat)} {s : PS} (he : EndOk ts) (hk : s.k < ts.length) : (entryF ts s).2.k < ts.length := by
  have a0 := takeF_k (kd := 1) (tx := [105, 109, 97, 103, 101]) he hk (by decide)
  have a1 := takeF_k (kd := 3) (tx := []) he a0 (by decide)
  have a2 := takeF_k (kd := 1) (tx := [97, 116]) he a1 (by decide)
  have a3 := takeF_k (kd := 2) (tx := []) he a2 (by decide)
  have a4 := takeF_k (kd := 1) (tx := [115, 105, 122, 101]) he a3 (by decide)
  have a5 := takeF_k (kd := 2) (tx := []) he a4 (by decide)
  have a6 := takeF_k (kd := 1) (tx := [112, 114, 105, 110, 116]) he a5 (by decide)
  have a7 := takeF_k (kd := 2) (tx := []) he a6 (by decide)
  have a8 := takeF_k (kd := 1) (tx := [98, 121]) he a7 (by decide)
  have a9 := takeF_k (kd := 1) (tx := []) he a8 (by decide)
  unfold entryF
  simp only
  split
  · exact takeF_k he a9 (by decide)
  · rw [nameF_k]; exact a9

def parseF : Nat → List (Tk × Nat) → PS → List En → List En × Option (Nat × Nat)
  | 0, ts, s, out => (out, s.err)
  | f + 1, ts, s, out => if s.err = none ∧ (ts.getD s.k tok0).1.kd ≠ 0 then parseF f ts (entryF ts s).2 (out ++ [(entryF ts s).1]) else (out, s.err)
def parseL (ts : List (Tk × Nat)) : List En × Option (Nat × Nat) := parseF ts.length ts ⟨0, none⟩ []
def mu (ts : List (Tk × Nat)) (s : PS) : Nat := match s.err with
  | none => ts.length - s.k
  | some _ => 0
theorem mu_entry {ts : List (Tk × Nat)} {s : PS} (he : EndOk ts) (hk : s.k < ts.length) (h : s.err = none) : mu ts (entryF ts s).2 < mu ts s := by
  have h1 : mu ts s = ts.length - s.k := by simp [mu, h]
  cases h2 : (entryF ts s).2.err with
  | some e =>
    have : mu ts (entryF ts s).2 = 0 := by simp [mu, h2]
    omega
  | none =>
    obtain ⟨w, hs, hf⟩ := entryF_none h2
    have e : (entryF ts s).2 = ⟨s.k + 11, none⟩ := by rw [hs, entryF_fit hf]
    have : mu ts (⟨s.k + 11, none⟩ : PS) = ts.length - (s.k + 11) := rfl
    rw [e, this, h1]
    omega
theorem parse_stop {ts : List (Tk × Nat)} {s : PS} {out : List En} (h : ¬ (s.err = none ∧ (ts.getD s.k tok0).1.kd ≠ 0)) : ∀ n, parseF n ts s out = (out, s.err)
  | 0 => rfl
  | n + 1 => by rw [parseF, if_neg h]

theorem kept_old {ip : Nat} {b m : Mem} (h : Kept ip b m) : Old (b.set ip (m.get ip)) m :=
  ⟨h.1, fun i hi => by
    rcases Classical.em (i = ip) with e | e
    · subst e; rw [Mem.set_same]
    · rw [Mem.set_other _ _ e]; exact h.2 i hi e⟩
theorem SK_appP {P : Program} {w0 : World} {ts : Fr} {m base : Mem} {R : Value → Mem → Prop} {e sz bytes n k : Nat} {ob : Option Nat} {cs ys : List Value} {x y : Operand} (hb : Old base m) (h : SlO m e sz ob cs n) (hob : ∀ b, ob = some b → base.next ≤ b)
    (hx : ev ts x = slV ob n sz) (hy : elemsV m sz (ev ts y) = some ys) (hk : lenV (ev ts y) = k) (hpos : 0 < k) (h1 : ys.all oneC = true) (h2 : (n + k) * bytes ≤ 140737488355328) (h3 : n + k ≤ maxLen) (hl : ys.length = k * sz)
    (hR : ∀ ob' m', Old base m' → SlO m' e sz ob' (cs ++ ys) (n + k) → (∀ b, ob' = some b → base.next ≤ b) → R (slV ob' (n + k) sz) m') : SK P w0 (.e (.app e sz bytes x y)) ts m R := by
  refine SK_ap h hx hy hk hpos h1 h2 h3 hl (hR _ _ ((hb.kill hob).push _) (SlO.new ?_) ?_)
  · rw [List.length_append, h.1, hl, Nat.add_mul]
  · intro b hb'; cases hb'; exact hb.1
theorem En_one (e : En) : e.cells.all oneC = true := rfl

theorem c_Parse {w0 : World} {m : Mem} {S : ByteArray} {Q : Value → Mem → Prop} (hp : Part L0 m) (ht : Ten w0) (hE : ErrV w0)
    (hb : 4096 < S.size → ∀ m', Old m m' → Q (.tuple ⟨[.slice none 0 0, faultV 7 0]⟩) m')
    (hx : S.size ≤ 4096 → ∀ m' a, Old m m' → cutL 0 S.data.toList = .inl a → Q (.tuple ⟨[.slice none 0 0, faultV 1 a]⟩) m')
    (he : S.size ≤ 4096 → ∀ m' us e, Old m m' → cutL 0 S.data.toList = .inr us → (parseL us).2 = some e → Q (.tuple ⟨[.slice none 0 0, faultV e.1 e.2]⟩) m')
    (hq : S.size ≤ 4096 → ∀ m' us ob, Old m m' → cutL 0 S.data.toList = .inr us → us.length ≤ S.size + 1 → (parseL us).2 = none → SlO m' 36 5 ob ((parseL us).1.flatMap En.cells) (parseL us).1.length → (∀ i, ob = some i → m.next ≤ i) → Q (.tuple ⟨[slV ob (parseL us).1.length 5, .nilIface]⟩) m') :
    AbC Tryd.prog w0 12 [.string S] m Q := by
  refine AbC_fn ok12 (by simp) ?_
  simp -implicitDefEqProofs (disch := first | assumption | (simp only [wnA]; done) | (simp only [wnA]; omega) | omega | fail) [rc12, ro12, wkA, retV, stabOk, dC, ev, fillD, pickCells, putAt, bnd, slD, List.getElem?_cons_zero, List.getElem?_cons_succ, dR.eq_20, Mem.cell, Mem.row, wmA]
  refine c_tCut hp ht hE (fun hs m1 o1 => ?_) (fun hs m1 a o1 hc => ?_) fun hs m1 it us o1 h1 hi hul hc => ?_
  · have hf : faultV 7 0 = .iface 84 (.agg ⟨[.int .i64 ((7 : Nat) : Int), .int .i64 ((0 : Nat) : Int)]⟩) := rfl
    have hb := hb hs m1 o1
    rw [hf] at hb
    simp -implicitDefEqProofs (disch := first | assumption | (simp only [wnA]; done) | (simp only [wnA]; omega) | omega | fail) [wkA, retV, stabOk, dC, ev, fillD, pickCells, putAt, bnd, slD, List.getElem?_cons_zero, List.getElem?_cons_succ, dR.eq_20, Mem.cell, Mem.row, wmA, hf]
    exact hb
  · have hf : faultV 1 a = .iface 84 (.agg ⟨[.int .i64 ((1 : Nat) : Int), .int .i64 (a : Int)]⟩) := rfl
    have hx := hx hs m1 a o1 hc
    rw [hf] at hx
    simp -implicitDefEqProofs (disch := first | assumption | (simp only [wnA]; done) | (simp only [wnA]; omega) | omega | fail) [wkA, retV, stabOk, dC, ev, fillD, pickCells, putAt, bnd, slD, List.getElem?_cons_zero, List.getElem?_cons_succ, dR.eq_20, Mem.cell, Mem.row, wmA, hf]
    exact hx
  · have hE : EndOk us := by
      obtain ⟨-, ini, hini⟩ := (cut_places S.data.toList S.data.toList.length 0 (by omega) (by omega)).2 us hc
      unfold EndOk
      rw [hini]
      simp [endT]
    have hpos : 0 < us.length := by
      obtain ⟨-, ini, hini⟩ := (cut_places S.data.toList S.data.toList.length 0 (by omega) (by omega)).2 us hc
      rw [hini]; simp
    simp -implicitDefEqProofs (disch := first | assumption | (simp only [wnA]; done) | (simp only [wnA]; omega) | omega | fail) [wkA, retV, stabOk, dC, ev, fillD, pickCells, putAt, bnd, slD, List.getElem?_cons_zero, List.getElem?_cons_succ, dR.eq_20, Mem.cell, Mem.row, wmA, rc12_4]
    obtain ⟨ip, hip⟩ : ∃ ip, m1.next = ip := ⟨_, rfl⟩
    obtain ⟨b, hbb⟩ : ∃ b, m1.push (.own [slV (some it) us.length 4, .int .i64 0, .nilIface] 75) = b := ⟨_, rfl⟩
    have oB : Old m1 b := by subst hbb; exact (Old.refl m1).push _
    have pB : PsAt b ip it us ⟨0, none⟩ := by
      subst hbb hip
      exact ⟨by rw [Mem.push_same]; rfl, by rw [Mem.push_old _ _ h1.lt]; exact h1.2.1, by simp, by have := h1.lt; simp; omega, by have := h1.lt; omega⟩
    have nB : b.next = ip + 1 := by subst hbb hip; rfl
    have fin : ∀ m', Kept ip b m' → Old m m' := fun m' k => ⟨by have := o1.1; have := oB.1; have := k.1; omega, fun i hi => by
      have := o1.1
      rw [k.2 i (by omega) (by omega), oB.2 i (by omega), o1.2 i hi]⟩
    have hlm : m.next ≤ b.next := by have := o1.1; omega
    simp only [hbb, hip]
    clear hbb
    refine LoopW_of (fun n fr m' => ∃ s out ob, mu us s ≤ n ∧ s.k < us.length ∧ parseF n us s out = parseL us ∧ Kept ip b m' ∧ PsAt m' ip it us s ∧ SlO m' 36 5 ob (out.flatMap En.cells) out.length ∧ (∀ i, ob = some i → b.next ≤ i) ∧ out.length + mu us s ≤ us.length ∧ fr 6 = .pointer (some ⟨ip, 0, none⟩) ∧ fr 7 = slV ob out.length 5) us.length ?_ ?_
    · exact ⟨⟨0, none⟩, [], none, by simp [mu], hpos, rfl, Kept.refl _ _, pB, ⟨rfl, rfl⟩, (fun i h => by cases h), by simp [mu], by simp, by simp; rfl⟩
    · rintro n fr m' K ⟨s, out, ob, hmu, hk, hpa, kB, pS, so, hob, hol, f6, f7⟩ hK
      obtain ⟨k, err⟩ := s
      have hk : k < us.length := hk
      have oF := fin m' kB
      cases err with
      | some e =>
        have gp : m'.get ip = .own [.slice (some ⟨it, 0, none⟩) us.length 4, .int .i64 (k : Int), .iface 84 (.agg ⟨[.int .i64 (e.1 : Int), .int .i64 (e.2 : Int)]⟩)] 75 := pS.1
        have hpe : parseL us = (out, some e) := by rw [← hpa]; exact parse_stop (fun h => by cases h.1) n
        have he := he hs m' us e oF hc (by rw [hpe])
        simp only [faultV] at he
        simp -implicitDefEqProofs (disch := first | assumption | (simp only [wnA]; done) | (simp only [wnA]; omega) | omega | fail) [wkA, retV, stabOk, dC, ev, fillD, pickCells, putAt, bnd, slD, List.getElem?_cons_zero, List.getElem?_cons_succ, dR.eq_20, Mem.cell, Mem.row, wmA, rc12_1, rc12_3, f6, gp]
        exact he
      | none =>
        have gp : m'.get ip = .own [.slice (some ⟨it, 0, none⟩) us.length 4, .int .i64 (k : Int), .nilIface] 75 := pS.1
        have hidx : sidx 4 (.slice (some ⟨it, 0, none⟩) us.length 4) (.int .i64 (k : Int)) = some (.pointer (some ⟨it, 0 + k * 4, none⟩)) := sidx_at hk
        rw [Nat.zero_add] at hidx
        have gt := pS.2.1
        have g0 : (us.flatMap cellP)[k * 4]? = some (.int .i64 (us.getD k tok0).1.kd) := by
          have := flat_at' cellP_len us (List.getElem?_eq_getElem hk) (show 0 < 4 by omega)
          have e : us.getD k tok0 = us[k] := by simp [List.getD, List.getElem?_eq_getElem hk]
          rw [e]
          exact this
        obtain ⟨kd0, hkd0⟩ : ∃ x, (us.getD k tok0).1.kd = x := ⟨_, rfl⟩
        rw [hkd0] at g0
        by_cases hkd : kd0 = 0
        · have hpe : parseL us = (out, none) := by rw [← hpa]; exact parse_stop (fun h => h.2 (hkd0.trans hkd)) n
          have hq := hq hs m' us ob oF hc hul (by rw [hpe]) (by rw [hpe]; exact so) (fun i h => by have := hob i h; omega)
          rw [hpe] at hq
          rw [hkd] at g0
          obtain ⟨L, hL⟩ : ∃ L, us.flatMap cellP = L := ⟨_, rfl⟩
          rw [hL] at gt g0
          simp -implicitDefEqProofs (disch := first | assumption | (simp only [wnA]; done) | (simp only [wnA]; omega) | omega | fail) [wkA, retV, stabOk, dC, ev, fillD, pickCells, putAt, bnd, slD, List.getElem?_cons_zero, List.getElem?_cons_succ, dR.eq_20, Mem.cell, Mem.row, wmA, rc12_1, rc12_3, rc12_2, f6, f7, gp, hidx, gt, g0]
          exact hq
        · have hm1 : mu us ⟨k, none⟩ = us.length - k := rfl
          obtain ⟨n, rfl⟩ : ∃ n', n = n' + 1 := ⟨n - 1, by omega⟩
          have hmu2 := mu_entry (s := ⟨k, none⟩) hE hk rfl
          have hk2 := entryF_k (s := ⟨k, none⟩) hE hk
          rw [parseF, if_pos ⟨rfl, fun e => hkd (hkd0.symm.trans e)⟩] at hpa
          obtain ⟨L, hL⟩ : ∃ L, us.flatMap cellP = L := ⟨_, rfl⟩
          rw [hL] at gt g0
          simp -implicitDefEqProofs (disch := first | assumption | (simp only [wnA]; done) | (simp only [wnA]; omega) | omega | fail) [wkA, retV, stabOk, dC, ev, fillD, pickCells, putAt, bnd, slD, List.getElem?_cons_zero, List.getElem?_cons_succ, dR.eq_20, Mem.cell, Mem.row, wmA, rc12_1, rc12_0, f6, f7, gp, hidx, gt, g0, bneT hkd]
          refine c_entry pS hk (by omega) hE fun m2 k2 p2 => ?_
          generalize entryF us ⟨k, none⟩ = r at *
          obtain ⟨⟨nm, ea, es, ep, ew⟩, s2⟩ := r
          simp -implicitDefEqProofs (disch := first | assumption | (simp only [wnA]; done) | (simp only [wnA]; omega) | omega | fail) [wkA, retV, stabOk, dC, ev, fillD, pickCells, putAt, bnd, slD, List.getElem?_cons_zero, List.getElem?_cons_succ, dR.eq_20, Mem.cell, Mem.row, wmA]
          rw [SK_bsl (cs := [.string nm, .int .i64 ea, .int .i64 es, .int .u32 ep, .int .i64 ew]) (by simp [wkA, retV, stabOk, dC, ev, fillD, pickCells, putAt, bnd, slD, List.getElem?_cons_zero, List.getElem?_cons_succ, dR.eq_20, En.cells]) (by simp)]
          obtain ⟨m3, hm3⟩ : ∃ m3, m2.push (.own [.string nm, .int .i64 ea, .int .i64 es, .int .u32 ep, .int .i64 ew] 36) = m3 := ⟨_, rfl⟩
          have o3 : Old m2 m3 := by subst hm3; exact (Old.refl m2).push _
          have g3 : m3.get m2.next = .own [.string nm, .int .i64 ea, .int .i64 es, .int .u32 ep, .int .i64 ew] 36 := by subst hm3; rw [Mem.push_same]
          have n3 : m3.next = m2.next + 1 := by subst hm3; rfl
          simp -implicitDefEqProofs (disch := first | assumption | (simp only [wnA]; done) | (simp only [wnA]; omega) | omega | fail) [wkA, retV, stabOk, dC, ev, fillD, pickCells, putAt, bnd, slD, List.getElem?_cons_zero, List.getElem?_cons_succ, dR.eq_20, Mem.cell, Mem.row, wmA, hm3]
          clear hm3
          have K3 : Kept ip b m3 := (kB.trans k2).trans o3.kept
          have p3 := p2.old o3
          have s3 : SlO m3 36 5 ob (out.flatMap En.cells) out.length := so.keep (by have := k2.1; have := o3.1; omega) fun j hj => by
            have h1 := hob j hj
            have h2 : j < m'.next := by subst hj; exact so.lt
            rw [o3.2 j (by have := k2.1; omega), k2.2 j h2 (by omega)]
          refine SK_appP (base := b.set ip (m3.get ip)) (ob := ob) (n := out.length) (k := 1) (cs := out.flatMap En.cells) (ys := [.string nm, .int .i64 ea, .int .i64 es, .int .u32 ep, .int .i64 ew]) (kept_old K3) s3 hob (by simp [wkA, retV, stabOk, dC, ev, fillD, pickCells, putAt, bnd, slD, List.getElem?_cons_zero, List.getElem?_cons_succ, dR.eq_20]) (by simp -implicitDefEqProofs (disch := first | assumption | (simp only [wnA]; done) | (simp only [wnA]; omega) | omega | fail) [wkA, retV, stabOk, dC, ev, fillD, pickCells, putAt, bnd, slD, List.getElem?_cons_zero, List.getElem?_cons_succ, dR.eq_20, elemsV, Mem.cell, Mem.row, wmA, g3]) (by simp [wkA, retV, stabOk, dC, ev, fillD, pickCells, putAt, bnd, slD, List.getElem?_cons_zero, List.getElem?_cons_succ, dR.eq_20]) (by omega) rfl (by omega) (by simp only [maxLen]; omega) rfl fun ob' m4 o4 s4 hob4 => ?_
          simp -implicitDefEqProofs (disch := first | assumption | (simp only [wnA]; done) | (simp only [wnA]; omega) | omega | fail) [wkA, retV, stabOk, dC, ev, fillD, pickCells, putAt, bnd, slD, List.getElem?_cons_zero, List.getElem?_cons_succ, dR.eq_20, Mem.cell, Mem.row, wmA]
          have K4 : Kept ip b m4 := ⟨o4.1, fun i hi hn => by rw [o4.2 i hi, Mem.set_other _ _ hn]⟩
          have gi : m4.get ip = m3.get ip := by rw [o4.2 ip (by show ip < b.next; omega), Mem.set_same]
          have p4 : PsAt m4 ip it us s2 := by
            obtain ⟨x1, x2, x3, x4, x5⟩ := p3
            have hitb : it < b.next := pB.2.2.2.1
            exact ⟨by rw [gi]; exact x1, by rw [K4.2 it hitb (fun e => x5 e.symm), pB.2.1], by have := o4.1; show ip < m4.next; have : b.next ≤ m4.next := this; omega, by have : b.next ≤ m4.next := o4.1; omega, x5⟩
          refine hK n _ m4 (by omega) ⟨s2, out ++ [⟨nm, ea, es, ep, ew⟩], ob', ?_, ?_, hpa, K4, p4, ?_, hob4, ?_, ?_, ?_⟩
          · have : mu us s2 < mu us ⟨k, none⟩ := hmu2
            omega
          · exact hk2
          · have : (out ++ [(⟨nm, ea, es, ep, ew⟩ : En)]).flatMap En.cells = out.flatMap En.cells ++ [.string nm, .int .i64 ea, .int .i64 es, .int .u32 ep, .int .i64 ew] := by simp [En.cells]
            rw [this]
            simpa using s4
          · have : mu us s2 < mu us ⟨k, none⟩ := hmu2
            simp
            omega
          · simp [f6]
          · simp
end Go.Proofs.YtgfkjldohilmkaaDoor.Ab
