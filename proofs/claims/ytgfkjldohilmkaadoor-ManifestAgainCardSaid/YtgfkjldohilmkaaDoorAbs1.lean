/- Texts that are cut at a byte: what the library's laws say of lists of bytes (plain law, no program). -/
import Derived.Lib.SplitLaws
import Derived.Lib.TrimByte
import Derived.Lib.IndexBytes
set_option linter.unusedVariables false
set_option linter.unusedSimpArgs false
namespace Go.Proofs.YtgfkjldohilmkaaDoor.Ab
open Go

theorem ixB_cases (c : UInt8) : ∀ l : List UInt8, (Lib.indexByte l c = -1 ∧ c ∉ l) ∨ ∃ a r, l = a ++ c :: r ∧ c ∉ a ∧ Lib.indexByte l c = (a.length : Nat)
  | [] => .inl ⟨rfl, by simp⟩
  | b :: l => by
    unfold Lib.indexByte
    by_cases h : b = c
    · subst h
      exact .inr ⟨[], l, rfl, by simp, by simp⟩
    · have hb : (b == c) = false := by simpa using h
      simp only [hb, Bool.false_eq_true, if_false]
      rcases ixB_cases c l with ⟨h1, h2⟩ | ⟨a, r, h1, h2, h3⟩
      · refine .inl ⟨by rw [h1]; rfl, ?_⟩
        simp only [List.mem_cons, not_or]
        exact ⟨fun e => h e.symm, h2⟩
      · refine .inr ⟨b :: a, r, by rw [h1]; rfl, ?_, ?_⟩
        · simp only [List.mem_cons, not_or]
          exact ⟨fun e => h e.symm, h2⟩
        · rw [h3]
          have : ((a.length : Int) == -1) = false := by simp
          rw [this]
          simp
theorem ixB_hit {c : UInt8} {a r : List UInt8} (h : c ∉ a) : Lib.indexByte (a ++ c :: r) c = (a.length : Nat) := by
  rcases ixB_cases c (a ++ c :: r) with ⟨-, h2⟩ | ⟨a', r', h1, h2, h3⟩
  · exact (h2 (by simp)).elim
  · rw [h3]
    congr 1
    have key : ∀ (a a' r r' : List UInt8), c ∉ a → c ∉ a' → a ++ c :: r = a' ++ c :: r' → a'.length = a.length := by
      intro a
      induction a with
      | nil =>
        intro a' r r' h1 h2 h
        cases a' with
        | nil => rfl
        | cons x a' => simp at h; simp [h.1] at h2
      | cons x a ih =>
        intro a' r r' h1 h2 h
        cases a' with
        | nil => simp at h; simp [h.1] at h1
        | cons y a' =>
          simp at h h1 h2
          simp [ih a' r r' h1.2 h2.2 h.2]
    exact key a a' r r' h h2 h1
theorem ixB_miss {c : UInt8} {a : List UInt8} (h : c ∉ a) : Lib.indexByte a c = -1 := by
  rcases ixB_cases c a with ⟨h1, _⟩ | ⟨a', r', h1, _, _⟩
  · exact h1
  · rw [h1] at h; simp at h

/-- The pieces, put together again. -/
def joinC (c : UInt8) : List (List UInt8) → List UInt8
  | [] => []
  | [a] => a
  | a :: b :: l => a ++ c :: joinC c (b :: l)
theorem splitK_ne {c : UInt8} {k : Nat} {s : List UInt8} : ∃ a l, Lib.splitK [c] 0 k s = a :: l := by
  cases k with
  | zero => exact ⟨_, _, rfl⟩
  | succ k =>
    unfold Lib.splitK
    split
    · exact ⟨_, _, rfl⟩
    · exact ⟨_, _, rfl⟩
theorem splitK_join {c : UInt8} : ∀ (k : Nat) (s : List UInt8), joinC c (Lib.splitK [c] 0 k s) = s
  | 0, s => rfl
  | k + 1, s => by
    unfold Lib.splitK
    rw [Lib.index_one]
    rcases ixB_cases c s with ⟨h1, h2⟩ | ⟨a, r, h1, h2, h3⟩
    · rw [h1]; rfl
    · rw [h3]
      have : ((a.length : Int) == -1) = false := by simp
      rw [this]
      obtain ⟨x, l, hx⟩ := splitK_ne (c := c) (k := k) (s := s.drop (((a.length : Nat) : Int).toNat + [c].length))
      have ih := splitK_join (c := c) k (s.drop (((a.length : Nat) : Int).toNat + [c].length))
      rw [hx] at ih
      simp only [Bool.false_eq_true, if_false, hx, joinC, ih]
      subst h1
      simp
theorem splitK_hit {c : UInt8} {k : Nat} {a r : List UInt8} (h : c ∉ a) : Lib.splitK [c] 0 (k + 1) (a ++ c :: r) = a :: Lib.splitK [c] 0 k r := by
  show (if Lib.index (a ++ c :: r) [c] == -1 then [a ++ c :: r] else (a ++ c :: r).take ((Lib.index (a ++ c :: r) [c]).toNat + 0) :: Lib.splitK [c] 0 k ((a ++ c :: r).drop ((Lib.index (a ++ c :: r) [c]).toNat + [c].length))) = _
  rw [Lib.index_one, ixB_hit h]
  have : ((a.length : Int) == -1) = false := by simp
  rw [this]
  simp only [Bool.false_eq_true, if_false]
  have h1 : ((a.length : Int)).toNat = a.length := by omega
  rw [h1]
  have h2 : (a ++ c :: r).drop (a.length + [c].length) = r := by
    rw [show a.length + [c].length = (a ++ [c]).length from by simp]
    rw [show a ++ c :: r = (a ++ [c]) ++ r from by simp, List.drop_left]
  rw [h2]
  simp
theorem splitK_zero {c : UInt8} {s : List UInt8} : Lib.splitK [c] 0 0 s = [s] := rfl

/-- What lies ahead of the bytes that are trimmed. -/
theorem trim_cases (c : UInt8) (l : List UInt8) : ∃ k, l = Lib.trimRightB l c ++ List.replicate k c := by
  unfold Lib.trimRightB
  have key : ∀ l : List UInt8, ∃ k, l = List.replicate k c ++ l.dropWhile (· == c) := by
    intro l
    induction l with
    | nil => exact ⟨0, rfl⟩
    | cons b l ih =>
      by_cases h : b = c
      · subst h
        obtain ⟨k, hk⟩ := ih
        refine ⟨k + 1, ?_⟩
        simp only [List.dropWhile_cons, beq_self_eq_true, if_true, List.replicate_succ, List.cons_append]
        rw [← hk]
      · have hb : (b == c) = false := by simpa using h
        exact ⟨0, by simp [List.dropWhile_cons, hb]⟩
  obtain ⟨k, hk⟩ := key l.reverse
  refine ⟨k, ?_⟩
  have := congrArg List.reverse hk
  rw [List.reverse_reverse, List.reverse_append, List.reverse_replicate] at this
  exact this
theorem trim_pad {c x : UInt8} {a : List UInt8} (h : x ≠ c) (k : Nat) : Lib.trimRightB (a ++ x :: List.replicate k c) c = a ++ [x] := by
  unfold Lib.trimRightB
  have e : (a ++ x :: List.replicate k c).reverse = List.replicate k c ++ x :: a.reverse := by simp
  rw [e]
  have key : ∀ k, (List.replicate k c ++ x :: a.reverse).dropWhile (· == c) = x :: a.reverse := by
    intro k
    induction k with
    | zero =>
      have hb : (x == c) = false := by simpa using h
      simp [List.dropWhile_cons, hb]
    | succ k ih => simpa [List.replicate_succ, List.dropWhile_cons] using ih
  rw [key]
  simp
end Go.Proofs.YtgfkjldohilmkaaDoor.Ab
