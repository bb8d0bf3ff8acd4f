/- What follows of a text's tokens: where they stand; two texts with a line feed between (plain law; no program). -/
import Derived.Test.YtilknkpaghihhaaDoorAbz
import Derived.Test.YtilknkpaghihhaaDoorAbtkA
set_option linter.unusedVariables false
set_option linter.unusedSimpArgs false
namespace Go.Proofs.YtilknkpaghihhaaDoor.Ab
open Go Go.RowKit

/-! Places. -/
def PlL (L : List UInt8) : Int → List (Tk × Nat) → Prop
  | _, [] => True
  | pr, p :: us => (p.1.kd ≠ 0 → pr < (p.2 : Int)) ∧ pr ≤ (p.2 : Int) ∧ p.2 ≤ L.length ∧ (p.1.kd ≠ 3 → p.2 + p.1.tx.length ≤ L.length ∧ (L.drop p.2).take p.1.tx.length = p.1.tx) ∧ PlL L (p.2 : Int) us
theorem oneL_text {l : List UInt8} {t : Tk} {n : Nat} (h : oneL l = some (t, n)) : t.kd ≠ 0 ∧ (t.kd ≠ 3 → t.tx.length ≤ l.length ∧ l.take t.tx.length = t.tx) := by
  cases l with
  | nil => simp [oneL] at h
  | cons c r =>
    have tk : ∀ k : Nat, ((c :: r).take k).length ≤ (c :: r).length ∧ (c :: r).take ((c :: r).take k).length = (c :: r).take k := fun k => by
      rw [List.length_take]
      refine ⟨by omega, ?_⟩
      rw [List.take_eq_take_iff]
      omega
    simp only [oneL] at h
    split at h
    · simp only [Option.some.injEq, Prod.mk.injEq] at h
      obtain ⟨rfl, rfl⟩ := h
      exact ⟨by show (1 : Int) ≠ 0; decide, fun _ => tk _⟩
    · split at h
      · cases hv : numV (c :: r) with
        | none => simp [hv] at h
        | some v =>
          simp only [hv, Option.map_some, Option.some.injEq, Prod.mk.injEq] at h
          obtain ⟨rfl, rfl⟩ := h
          exact ⟨by show (2 : Int) ≠ 0; decide, fun _ => tk _⟩
      · split at h
        · cases hq : qd r with
          | none => simp [hq] at h
          | some p =>
            simp only [hq, Option.map_some, Option.some.injEq, Prod.mk.injEq] at h
            obtain ⟨rfl, rfl⟩ := h
            exact ⟨by show (3 : Int) ≠ 0; decide, fun h => absurd rfl h⟩
        · split at h
          · simp only [Option.some.injEq, Prod.mk.injEq] at h
            obtain ⟨rfl, rfl⟩ := h
            exact ⟨by show (4 : Int) ≠ 0; decide, fun _ => tk 1⟩
          · cases h
theorem cut_places (L : List UInt8) : ∀ (k a : Nat), L.length - a ≤ k → a ≤ L.length → (∀ e, cutL a (L.drop a) = .inl e → e ≤ L.length) ∧ (∀ us, cutL a (L.drop a) = .inr us → (∀ pr : Int, pr < (a : Int) → PlL L pr us) ∧ ∃ i, us = i ++ [(endT, L.length)])
  | k, a, hk, ha => by
    rcases hd : L.drop a with _ | ⟨c, r⟩
    · have hla : L.length = a := by
        have := congrArg List.length hd
        rw [List.length_drop] at this
        simp at this; omega
      rw [cutL_nil]
      refine ⟨fun e h => (by cases h), fun us h => ?_⟩
      cases h
      refine ⟨fun pr hpr => ?_, [], by rw [hla]; rfl⟩
      refine ⟨fun h => by simp [endT] at h, by omega, by omega, fun _ => ⟨by simp [endT]; omega, by simp [endT]⟩, trivial⟩
    · have hl := congrArg List.length hd
      rw [List.length_drop] at hl
      simp only [List.length_cons] at hl
      obtain ⟨k, rfl⟩ : ∃ k', k = k' + 1 := ⟨k - 1, by omega⟩
      have hr : L.drop (a + 1) = r := by
        have := congrArg (List.drop 1) hd
        rw [List.drop_drop] at this
        simpa using this
      cases hb : isBl c with
      | true =>
        rw [cutL_bl hb, ← hr]
        obtain ⟨i1, i2⟩ := cut_places L k (a + 1) (by omega) (by omega)
        exact ⟨i1, fun us h => ⟨fun pr hpr => (i2 us h).1 pr (by omega), (i2 us h).2⟩⟩
      | false =>
        by_cases h35 : c.toNat = 35
        · have h1 := run_cm (r := r) h35
          have h2 := runN_le no10 (c :: r)
          simp only [List.length_cons] at h2
          rw [cutL_cm hb h35, ← hd, List.drop_drop]
          rw [← hd] at h1 h2
          obtain ⟨i1, i2⟩ := cut_places L k (a + runN no10 (L.drop a)) (by omega) (by omega)
          exact ⟨i1, fun us h => ⟨fun pr hpr => (i2 us h).1 pr (by omega), (i2 us h).2⟩⟩
        · cases ho : oneL (c :: r) with
          | none =>
            rw [cutL_none hb h35 ho]
            exact ⟨fun e h => (by cases h; exact ha), fun us h => by cases h⟩
          | some q =>
            obtain ⟨t, n⟩ := q
            obtain ⟨n1, n2⟩ := oneL_len ho
            obtain ⟨x1, x2⟩ := oneL_text ho
            simp only [List.length_cons] at n2
            rw [cutL_some hb h35 ho, ← hd, List.drop_drop]
            obtain ⟨i1, i2⟩ := cut_places L k (a + n) (by omega) (by omega)
            refine ⟨fun e h => ?_, fun us h => ?_⟩
            · cases hc : cutL (a + n) (L.drop (a + n)) with
              | inl e' =>
                rw [hc] at h
                simp only [preC, Sum.inl.injEq] at h
                subst h
                exact i1 _ hc
              | inr vs => rw [hc] at h; cases h
            · cases hc : cutL (a + n) (L.drop (a + n)) with
              | inl e' => rw [hc] at h; cases h
              | inr vs =>
                rw [hc] at h
                simp only [preC, Sum.inr.injEq] at h
                subst h
                obtain ⟨j1, i, j2⟩ := i2 _ hc
                refine ⟨fun pr hpr => ⟨fun _ => hpr, by omega, by omega, fun hk => ?_, j1 _ (by omega)⟩, (t, a) :: i, by rw [j2]; rfl⟩
                obtain ⟨y1, y2⟩ := x2 hk
                simp only [List.length_cons] at y1
                exact ⟨by show a + t.tx.length ≤ L.length; omega, by show (L.drop a).take t.tx.length = t.tx; rw [hd]; exact y2⟩

/-! Two texts, one behind the other. -/
def shC (d : Nat) : Cuts → Cuts
  | .inl e => .inl (e + d)
  | .inr us => .inr (us.map fun p => (p.1, p.2 + d))
theorem shC_pre (d : Nat) (us : List (Tk × Nat)) (c : Cuts) : shC d (preC us c) = preC (us.map fun p => (p.1, p.2 + d)) (shC d c) := by
  cases c <;> simp [shC, preC]
theorem cutL_shift (d : Nat) : ∀ (k a : Nat) (l : List UInt8), l.length ≤ k → cutL (a + d) l = shC d (cutL a l)
  | _, a, [], _ => rfl
  | 0, a, _ :: _, h => by simp at h
  | k + 1, a, c :: r, h => by
    simp only [List.length_cons] at h
    cases hb : isBl c with
    | true => rw [cutL_bl hb, cutL_bl hb, ← cutL_shift d k (a + 1) r (by omega), Nat.add_right_comm]
    | false =>
      by_cases h35 : c.toNat = 35
      · have h1 := run_cm (r := r) h35
        rw [cutL_cm hb h35, cutL_cm hb h35, ← cutL_shift d k _ _ (by rw [List.length_drop]; simp; omega), Nat.add_right_comm]
      · cases ho : oneL (c :: r) with
        | none => rw [cutL_none hb h35 ho, cutL_none hb h35 ho]; rfl
        | some q =>
          obtain ⟨t, n⟩ := q
          obtain ⟨n1, n2⟩ := oneL_len ho
          rw [cutL_some hb h35 ho, cutL_some hb h35 ho, shC_pre, ← cutL_shift d k _ _ (by rw [List.length_drop]; simp; omega), Nat.add_right_comm]
          rfl
theorem wordN_lf (y : List UInt8) : ∀ (b : Bool) (x : List UInt8), wordN b (x ++ 10 :: y) = wordN b x
  | b, [] => by
    have : wq b 10 = false := by cases b <;> rfl
    simp [wordN, this]
  | b, c :: r => by
    simp only [List.cons_append, wordN, wordN_lf y true r]
theorem runN_lf {p : UInt8 → Bool} (hp : p 10 = false) (y : List UInt8) : ∀ x : List UInt8, runN p (x ++ 10 :: y) = runN p x
  | [] => by simp [runN, hp]
  | c :: r => by simp only [List.cons_append, runN, runN_lf hp y r]
theorem hexH_lf (y : List UInt8) : ∀ x : List UInt8, x ≠ [] → hexH (x ++ 10 :: y) = hexH x
  | [], h => absurd rfl h
  | [a], _ => by simp [hexH]
  | a :: b :: r, _ => rfl
theorem inB_lf (B : Nat) : inB B 10 = false := by simp [inB, isDig, isHx]
theorem num_lf {x : List UInt8} (y : List UInt8) (h : x ≠ []) : nB (x ++ 10 :: y) = nB x ∧ nF (x ++ 10 :: y) = nF x ∧ nN (x ++ 10 :: y) = nN x ∧ nDs (x ++ 10 :: y) = nDs x ∧ numV (x ++ 10 :: y) = numV x := by
  have hB : nB (x ++ 10 :: y) = nB x := by simp only [nB, hexH_lf y x h]
  have hF : nF (x ++ 10 :: y) = nF x := by simp only [nF, hexH_lf y x h]
  have hN : nN (x ++ 10 :: y) = nN x := by
    unfold nN
    rw [hB, hF, List.drop_append_of_le_length (nF_le x), runN_lf (inB_lf _)]
  have hD : nDs (x ++ 10 :: y) = nDs x := by
    unfold nDs
    rw [hN, hF, List.take_append_of_le_length (nN_le x)]
  refine ⟨hB, hF, hN, hD, ?_⟩
  unfold numV
  rw [hB, hD, hN, List.drop_append_of_le_length (nN_le x), wordN_lf]
theorem qd_lf (y : List UInt8) : ∀ x : List UInt8, qd (x ++ 10 :: y) = qd x
  | [] => by
    cases y <;> simp [qd]
  | [c] => by
    have h10 : qd (10 :: y) = none := by cases y <;> simp [qd]
    have he : escD 10 = none := rfl
    show qd (c :: 10 :: y) = qd [c]
    simp only [qd, h10, he]
    split
    · rfl
    · split
      · rfl
      · split <;> rfl
  | c :: e :: r => by
    have h1 := qd_lf y r
    have h2 := qd_lf y (e :: r)
    show qd (c :: e :: (r ++ 10 :: y)) = qd (c :: e :: r)
    simp only [qd, h1]
    rw [show qd (e :: (r ++ 10 :: y)) = qd (e :: r) from h2]
theorem oneL_lf {x : List UInt8} (y : List UInt8) (h : x ≠ []) : oneL (x ++ 10 :: y) = oneL x := by
  match x, h with
  | c :: r, h =>
    obtain ⟨-, -, hN, -, hV⟩ := num_lf y h
    have hw := wordN_lf y false (c :: r)
    have hq := qd_lf y r
    have t1 := List.take_append_of_le_length (l₂ := 10 :: y) (wordN_le false (c :: r))
    have t2 := List.take_append_of_le_length (l₂ := 10 :: y) (nN_le (c :: r))
    simp only [List.cons_append] at hN hV hw t1 t2 ⊢
    simp only [oneL, hw, hN, hV, hq, t1, t2]
theorem cut_lf (y : List UInt8) : ∀ (k a : Nat) (x : List UInt8), x.length ≤ k → (∀ e, cutL a x = .inl e → cutL a (x ++ 10 :: y) = .inl e) ∧ (∀ us, cutL a x = .inr us → ∃ i, us = i ++ [(endT, a + x.length)] ∧ cutL a (x ++ 10 :: y) = preC i (cutL (a + x.length + 1) y))
  | _, a, [], _ => by
    refine ⟨fun e h => (by cases h), fun us h => ?_⟩
    cases h
    refine ⟨[], rfl, ?_⟩
    rw [preC_nil]
    exact cutL_bl rfl
  | 0, a, _ :: _, h => by simp at h
  | k + 1, a, c :: r, h => by
    simp only [List.length_cons] at h
    cases hb : isBl c with
    | true =>
      obtain ⟨i1, i2⟩ := cut_lf y k (a + 1) r (by omega)
      rw [List.cons_append, cutL_bl hb, cutL_bl hb]
      refine ⟨i1, fun us hu => ?_⟩
      obtain ⟨i, e1, e2⟩ := i2 us hu
      refine ⟨i, ?_, ?_⟩
      · rw [e1]; simp; omega
      · rw [e2]; simp only [List.length_cons]; congr 2; omega
    | false =>
      by_cases h35 : c.toNat = 35
      · have h1 := run_cm (r := r) h35
        have h2 := runN_le no10 (c :: r)
        have hr := runN_lf (p := no10) rfl y (c :: r)
        rw [List.cons_append] at hr ⊢
        rw [cutL_cm hb h35, cutL_cm hb h35, hr, ← List.cons_append, List.drop_append_of_le_length h2]
        obtain ⟨i1, i2⟩ := cut_lf y k (a + runN no10 (c :: r)) ((c :: r).drop (runN no10 (c :: r))) (by rw [List.length_drop]; simp; omega)
        refine ⟨i1, fun us hu => ?_⟩
        obtain ⟨i, e1, e2⟩ := i2 us hu
        have hl : a + runN no10 (c :: r) + ((c :: r).drop (runN no10 (c :: r))).length = a + (c :: r).length := by rw [List.length_drop]; omega
        rw [hl] at e1 e2
        exact ⟨i, e1, e2⟩
      · have hol := oneL_lf y (x := c :: r) (by simp)
        rw [List.cons_append] at hol ⊢
        cases ho : oneL (c :: r) with
        | none =>
          rw [ho] at hol
          rw [cutL_none hb h35 ho, cutL_none hb h35 hol]
          exact ⟨fun e h => h, fun us h => by cases h⟩
        | some q =>
          obtain ⟨t, n⟩ := q
          rw [ho] at hol
          obtain ⟨n1, n2⟩ := oneL_len ho
          rw [cutL_some hb h35 ho, cutL_some hb h35 hol, ← List.cons_append, List.drop_append_of_le_length n2]
          obtain ⟨i1, i2⟩ := cut_lf y k (a + n) ((c :: r).drop n) (by rw [List.length_drop]; simp; omega)
          have hl : a + n + ((c :: r).drop n).length = a + (c :: r).length := by rw [List.length_drop]; omega
          rw [hl] at i2
          cases hc : cutL (a + n) ((c :: r).drop n) with
          | inl e' =>
            refine ⟨fun e h => ?_, fun us h => by cases h⟩
            rw [i1 e' hc]
            exact h
          | inr vs =>
            refine ⟨fun e h => (by cases h), fun us h => ?_⟩
            simp only [preC, Sum.inr.injEq] at h
            subst h
            obtain ⟨i, e1, e2⟩ := i2 vs hc
            exact ⟨(t, a) :: i, by rw [e1]; rfl, by rw [e2, preC_pre]; rfl⟩
end Go.Proofs.YtilknkpaghihhaaDoor.Ab
