/- What a text's tokens are (plain law; no program). -/
import Derived.Test.YtgfkjldohilmkaaDoorAbz
import Derived.Test.YtgfkjldohilmkaaDoorAbp3
import Derived.Test.YtgfkjldohilmkaaDoorAbz1
import Derived.Test.YtgfkjldohilmkaaDoorAbb1
import Derived.Test.YtgfkjldohilmkaaDoorAbs1
import Derived.Test.YtgfkjldohilmkaaDoorAbf1
set_option linter.unusedVariables false
set_option linter.unusedSimpArgs false
namespace Go.Proofs.YtgfkjldohilmkaaDoor.Ab
open Go Go.RowKit

def isLet (c : UInt8) : Bool := decide (97 ≤ c.toNat) && decide (c.toNat ≤ 122)
def isDig (c : UInt8) : Bool := decide (48 ≤ c.toNat) && decide (c.toNat ≤ 57)
def isHx (c : UInt8) : Bool := decide (97 ≤ c.toNat) && decide (c.toNat ≤ 102)
/-- May a byte stand in a word: at its beginning, behind it? -/
def wq (b : Bool) (c : UInt8) : Bool := isLet c || (b && (isDig c || c.toNat == 45))
def wordN : Bool → List UInt8 → Nat
  | _, [] => 0
  | b, c :: r => if wq b c then wordN true r + 1 else 0
def inB (B : Nat) (c : UInt8) : Bool := isDig c || (B == 16 && isHx c)
def runN (p : UInt8 → Bool) : List UInt8 → Nat
  | [] => 0
  | c :: r => if p c then runN p r + 1 else 0
def hexH : List UInt8 → Bool
  | a :: b :: _ => a.toNat == 48 && b.toNat == 120
  | _ => false
def nB (l : List UInt8) : Nat := if hexH l then 16 else 10
def nF (l : List UInt8) : Nat := if hexH l then 2 else 0
def nN (l : List UInt8) : Nat := nF l + runN (inB (nB l)) (l.drop (nF l))
def nDs (l : List UInt8) : List UInt8 := (l.take (nN l)).drop (nF l)
def numV (l : List UInt8) : Option Nat := match puL (nB l) 4294967295 0 (nDs l) with
  | some v => if digs (nB l) v = nDs l ∧ wordN false (l.drop (nN l)) = 0 then some v else none
  | none => none
def escD (c : UInt8) : Option UInt8 := if c.toNat = 92 then some 92 else if c.toNat = 34 then some 34 else if c.toNat = 114 then some 13 else if c.toNat = 110 then some 10 else none
/-- What stands in quotes, behind the first one: how long it is, and its bytes. -/
def qd : List UInt8 → Option (Nat × List UInt8)
  | [] => none
  | [c] => if c.toNat = 34 then some (1, []) else none
  | c :: e :: r => if c.toNat = 34 then some (1, []) else if c.toNat < 32 ∨ 126 < c.toNat then none
    else if c.toNat = 92 then (match escD e with
      | some x => (qd r).map fun p => (p.1 + 2, x :: p.2)
      | none => none)
    else (qd (e :: r)).map fun p => (p.1 + 1, c :: p.2)
structure Tk where
  kd : Int
  tx : List UInt8
  vl : Int
def Tk.cells (t : Tk) (a : Nat) : List Value := [.int .i64 t.kd, .string ⟨⟨t.tx⟩⟩, .int .i64 t.vl, .int .i64 (a : Int)]
def isSg (c : UInt8) : Bool := c.toNat == 58 || c.toNat == 59 || c.toNat == 44 || c.toNat == 123 || c.toNat == 125
def isBl (c : UInt8) : Bool := c.toNat == 32 || c.toNat == 9 || c.toNat == 10
def oneL : List UInt8 → Option (Tk × Nat)
  | [] => none
  | c :: r => if isLet c then some (⟨1, (c :: r).take (wordN false (c :: r)), 0⟩, wordN false (c :: r))
    else if isDig c then (numV (c :: r)).map fun v => ((⟨2, (c :: r).take (nN (c :: r)), ((v : Nat) : Int)⟩ : Tk), nN (c :: r))
    else if c.toNat = 34 then (qd r).map fun p => (⟨3, p.2, 0⟩, p.1 + 1)
    else if isSg c then some (⟨4, [c], 0⟩, 1) else none
def no10 (c : UInt8) : Bool := c.toNat != 10
def endT : Tk := ⟨0, [], 0⟩
abbrev Cuts := Nat ⊕ List (Tk × Nat)
def preC (ts : List (Tk × Nat)) : Cuts → Cuts
  | .inl e => .inl e
  | .inr us => .inr (ts ++ us)
def cutF : Nat → Nat → List UInt8 → Cuts
  | 0, a, _ => .inr [(endT, a)]
  | _ + 1, a, [] => .inr [(endT, a)]
  | k + 1, a, c :: r => if isBl c then cutF k (a + 1) r
    else if c.toNat = 35 then cutF k (a + runN no10 (c :: r)) ((c :: r).drop (runN no10 (c :: r)))
    else match oneL (c :: r) with
      | none => .inl a
      | some (t, n) => preC [(t, a)] (cutF k (a + n) ((c :: r).drop n))
def cutL (a : Nat) (l : List UInt8) : Cuts := cutF l.length a l

theorem wordN_le : ∀ (b : Bool) (l : List UInt8), wordN b l ≤ l.length
  | _, [] => Nat.le_refl _
  | b, c :: r => by
    simp only [wordN]
    split
    · have := wordN_le true r; simp; omega
    · simp
theorem runN_le (p : UInt8 → Bool) : ∀ (l : List UInt8), runN p l ≤ l.length
  | [] => Nat.le_refl _
  | c :: r => by
    simp only [runN]
    split
    · have := runN_le p r; simp; omega
    · simp
theorem hexH_len {l : List UInt8} (h : hexH l = true) : 2 ≤ l.length := by
  unfold hexH at h
  split at h
  · simp
  · cases h
theorem nF_le (l : List UInt8) : nF l ≤ l.length := by
  unfold nF
  split
  · exact hexH_len ‹_›
  · simp
theorem nN_le (l : List UInt8) : nN l ≤ l.length := by
  have h1 := runN_le (inB (nB l)) (l.drop (nF l))
  have h2 := nF_le l
  rw [List.length_drop] at h1
  unfold nN; omega
theorem nN_pos {c : UInt8} {r : List UInt8} (h : isDig c = true) : 1 ≤ nN (c :: r) := by
  unfold nN nF
  split
  · omega
  · simp [runN, inB, h]
theorem qd_len : ∀ {l : List UInt8} {n : Nat} {t : List UInt8}, qd l = some (n, t) → 1 ≤ n ∧ n ≤ l.length
  | [], n, t, h => by simp [qd] at h
  | [c], n, t, h => by
    simp only [qd] at h
    split at h
    · simp at h; simp; omega
    · cases h
  | c :: e :: r, n, t, h => by
    simp only [qd] at h
    split at h
    · simp at h; simp; omega
    · split at h
      · cases h
      · split at h
        · split at h
          · rename_i x hx
            cases hq : qd r with
            | none => simp [hq] at h
            | some p =>
              obtain ⟨a, b⟩ := p
              simp [hq] at h
              have := qd_len hq
              simp; omega
          · cases h
        · cases hq : qd (e :: r) with
          | none => simp [hq] at h
          | some p =>
            obtain ⟨a, b⟩ := p
            simp [hq] at h
            have := qd_len hq
            simp at this ⊢; omega
theorem oneL_len {l : List UInt8} {t : Tk} {n : Nat} (h : oneL l = some (t, n)) : 1 ≤ n ∧ n ≤ l.length := by
  cases l with
  | nil => simp [oneL] at h
  | cons c r =>
    simp only [oneL] at h
    split at h
    · rename_i hc
      simp at h
      have h1 := wordN_le false (c :: r)
      have h2 : 1 ≤ wordN false (c :: r) := by simp [wordN, wq, hc]
      omega
    · split at h
      · rename_i hc
        cases hv : numV (c :: r) with
        | none => simp [hv] at h
        | some v =>
          simp [hv] at h
          have h1 := nN_le (c :: r)
          have h2 := nN_pos (r := r) hc
          omega
      · split at h
        · cases hq : qd r with
          | none => simp [hq] at h
          | some p =>
            obtain ⟨a, b⟩ := p
            simp [hq] at h
            have := qd_len hq
            simp; omega
        · split at h
          · simp at h; simp; omega
          · cases h
theorem run_cm {c : UInt8} {r : List UInt8} (h : c.toNat = 35) : 1 ≤ runN no10 (c :: r) := by
  simp [runN, no10, h]
theorem cutF_fuel : ∀ (k k' a : Nat) (l : List UInt8), l.length ≤ k → l.length ≤ k' → cutF k a l = cutF k' a l
  | 0, k', a, [], _, _ => by cases k' <;> rfl
  | 0, _, _, _ :: _, h, _ => by simp at h
  | k + 1, 0, a, [], _, _ => rfl
  | _, 0, _, _ :: _, _, h => by simp at h
  | k + 1, k' + 1, a, [], _, _ => rfl
  | k + 1, k' + 1, a, c :: r, h, h' => by
    simp at h h'
    simp only [cutF]
    split
    · exact cutF_fuel k k' _ r h h'
    · split
      · have := run_cm (r := r) ‹_›
        exact cutF_fuel k k' _ _ (by rw [List.length_drop]; simp; omega) (by rw [List.length_drop]; simp; omega)
      · split
        · rfl
        · rename_i t n ho
          have := oneL_len ho
          rw [cutF_fuel k k' _ _ (by rw [List.length_drop]; simp; omega) (by rw [List.length_drop]; simp; omega)]
theorem cutL_nil (a : Nat) : cutL a [] = .inr [(endT, a)] := rfl
theorem cutL_bl {c : UInt8} {a : Nat} {r : List UInt8} (h : isBl c = true) : cutL a (c :: r) = cutL (a + 1) r := by
  show cutF (r.length + 1) a (c :: r) = _
  simp only [cutF, h, if_true]
  rfl
theorem cutL_cm {c : UInt8} {a : Nat} {r : List UInt8} (h : isBl c = false) (h2 : c.toNat = 35) : cutL a (c :: r) = cutL (a + runN no10 (c :: r)) ((c :: r).drop (runN no10 (c :: r))) := by
  show cutF (r.length + 1) a (c :: r) = _
  have := run_cm (r := r) h2
  simp only [cutF, h, Bool.false_eq_true, if_false, h2, if_true]
  exact cutF_fuel _ _ _ _ (by rw [List.length_drop]; simp; omega) (by rw [List.length_drop]; exact Nat.le_refl _)
theorem cutL_none {c : UInt8} {a : Nat} {r : List UInt8} (h : isBl c = false) (h2 : c.toNat ≠ 35) (h3 : oneL (c :: r) = none) : cutL a (c :: r) = .inl a := by
  show cutF (r.length + 1) a (c :: r) = _
  simp only [cutF, h, Bool.false_eq_true, if_false, h2, h3]
theorem cutL_some {c : UInt8} {a n : Nat} {t : Tk} {r : List UInt8} (h : isBl c = false) (h2 : c.toNat ≠ 35) (h3 : oneL (c :: r) = some (t, n)) : cutL a (c :: r) = preC [(t, a)] (cutL (a + n) ((c :: r).drop n)) := by
  show cutF (r.length + 1) a (c :: r) = _
  have := oneL_len h3
  simp only [cutF, h, Bool.false_eq_true, if_false, h2, h3]
  unfold cutL
  rw [cutF_fuel r.length ((c :: r).drop n).length _ _ (by rw [List.length_drop]; simp at *; omega) (Nat.le_refl _)]
theorem preC_pre (a b : List (Tk × Nat)) (c : Cuts) : preC a (preC b c) = preC (a ++ b) c := by
  cases c <;> simp [preC]
theorem preC_nil (c : Cuts) : preC [] c = c := by cases c <;> rfl
end Go.Proofs.YtgfkjldohilmkaaDoor.Ab
/- The tokens of a text: letters, digits, words, signs. -/
set_option linter.unusedVariables false
set_option linter.unusedSimpArgs false
namespace Go.Proofs.YtgfkjldohilmkaaDoor.Ab
open Go Go.RowKit
set_option maxHeartbeats 1000000
set_option maxRecDepth 100000

theorem allB {p : UInt8 → Bool} (h : ∀ n : Fin 256, p (UInt8.ofNat n.val) = true) (c : UInt8) : p c = true := by
  have := h ⟨c.toNat, c.toNat_lt⟩
  simpa using this
theorem c_letter {w0 : World} {m : Mem} {c : UInt8} {Q : Value → Mem → Prop} (hq : Q (.bool (isLet c)) m) : AbC Tryd.prog w0 52 [.int .u8 (c.toNat : Int)] m Q := by
  refine AbC_fn ok52 (by simp) ?_
  have hq' := fun b (h : isLet c = b) => h ▸ hq
  simp only [isLet] at hq'
  by_cases h1 : 97 ≤ c.toNat
  · have i1 : (97 : Int) ≤ (c.toNat : Int) := by omega
    by_cases h2 : c.toNat ≤ 122
    · have i2 : (c.toNat : Int) ≤ 122 := by omega
      simp -implicitDefEqProofs (disch := first | assumption | (simp only [wnA]; done) | (simp only [wnA]; omega) | omega | fail) [rc52, ro52, wkA, retV, stabOk, dC, ev, fillD, pickCells, putAt, bnd, slD, List.getElem?_cons_zero, List.getElem?_cons_succ, dR.eq_20, Mem.cell, Mem.row, wmA, i1, i2]
      exact hq' _ (by simp [h1, h2])
    · have i2 : ¬ (c.toNat : Int) ≤ 122 := by omega
      simp -implicitDefEqProofs (disch := first | assumption | (simp only [wnA]; done) | (simp only [wnA]; omega) | omega | fail) [rc52, ro52, wkA, retV, stabOk, dC, ev, fillD, pickCells, putAt, bnd, slD, List.getElem?_cons_zero, List.getElem?_cons_succ, dR.eq_20, Mem.cell, Mem.row, wmA, i1, i2]
      exact hq' _ (by simp [h1, h2])
  · have i1 : ¬ (97 : Int) ≤ (c.toNat : Int) := by omega
    simp -implicitDefEqProofs (disch := first | assumption | (simp only [wnA]; done) | (simp only [wnA]; omega) | omega | fail) [rc52, ro52, wkA, retV, stabOk, dC, ev, fillD, pickCells, putAt, bnd, slD, List.getElem?_cons_zero, List.getElem?_cons_succ, dR.eq_20, Mem.cell, Mem.row, wmA, i1]
    exact hq' _ (by simp [h1])
theorem c_digit {w0 : World} {m : Mem} {c : UInt8} {Q : Value → Mem → Prop} (hq : Q (.bool (isDig c)) m) : AbC Tryd.prog w0 54 [.int .u8 (c.toNat : Int)] m Q := by
  refine AbC_fn ok54 (by simp) ?_
  have hq' := fun b (h : isDig c = b) => h ▸ hq
  simp only [isDig] at hq'
  by_cases h1 : 48 ≤ c.toNat
  · have i1 : (48 : Int) ≤ (c.toNat : Int) := by omega
    by_cases h2 : c.toNat ≤ 57
    · have i2 : (c.toNat : Int) ≤ 57 := by omega
      simp -implicitDefEqProofs (disch := first | assumption | (simp only [wnA]; done) | (simp only [wnA]; omega) | omega | fail) [rc54, ro54, wkA, retV, stabOk, dC, ev, fillD, pickCells, putAt, bnd, slD, List.getElem?_cons_zero, List.getElem?_cons_succ, dR.eq_20, Mem.cell, Mem.row, wmA, i1, i2]
      exact hq' _ (by simp [h1, h2])
    · have i2 : ¬ (c.toNat : Int) ≤ 57 := by omega
      simp -implicitDefEqProofs (disch := first | assumption | (simp only [wnA]; done) | (simp only [wnA]; omega) | omega | fail) [rc54, ro54, wkA, retV, stabOk, dC, ev, fillD, pickCells, putAt, bnd, slD, List.getElem?_cons_zero, List.getElem?_cons_succ, dR.eq_20, Mem.cell, Mem.row, wmA, i1, i2]
      exact hq' _ (by simp [h1, h2])
  · have i1 : ¬ (48 : Int) ≤ (c.toNat : Int) := by omega
    simp -implicitDefEqProofs (disch := first | assumption | (simp only [wnA]; done) | (simp only [wnA]; omega) | omega | fail) [rc54, ro54, wkA, retV, stabOk, dC, ev, fillD, pickCells, putAt, bnd, slD, List.getElem?_cons_zero, List.getElem?_cons_succ, dR.eq_20, Mem.cell, Mem.row, wmA, i1]
    exact hq' _ (by simp [h1])

theorem at_S {S : ByteArray} {j : Nat} {c : UInt8} {r : List UInt8} (h : S.data.toList.drop j = c :: r) : j < S.size ∧ S[j]? = some c ∧ S.data.toList.drop (j + 1) = r := by
  have hl : S.data.toList.length = S.size := by simp
  have h1 := congrArg List.length h
  rw [List.length_drop] at h1
  simp only [List.length_cons] at h1
  have hlt : j < S.data.toList.length := by omega
  refine ⟨by omega, ?_, ?_⟩
  · have e : S = ⟨⟨S.data.toList⟩⟩ := rfl
    rw [e, ba_idx]
    have := List.drop_eq_getElem_cons hlt
    rw [h] at this
    simp only [List.cons.injEq] at this
    rw [List.getElem?_eq_getElem hlt, ← this.1]
  · have := List.drop_eq_getElem_cons hlt
    rw [h] at this
    simp only [List.cons.injEq] at this
    exact this.2.symm
theorem drop_nil {S : ByteArray} {j : Nat} (h : S.data.toList.drop j = []) (hj : j ≤ S.size) : j = S.size := by
  have hl : S.data.toList.length = S.size := by simp
  have h1 := congrArg List.length h
  rw [List.length_drop] at h1
  simp only [List.length_nil] at h1
  omega

theorem c_word {w0 : World} {m : Mem} {S : ByteArray} {Q : Value → Mem → Prop} (hs : S.size ≤ 140737488355328) (hq : Q (.int .i64 (wordN false S.data.toList : Nat)) m) : AbC Tryd.prog w0 53 [.string S] m Q := by
  refine AbC_fn ok53 (by simp) ?_
  simp -implicitDefEqProofs (disch := first | assumption | (simp only [wnA]; done) | (simp only [wnA]; omega) | omega | fail) [rc53, ro53, wkA, retV, stabOk, dC, ev, fillD, pickCells, putAt, bnd, slD, List.getElem?_cons_zero, List.getElem?_cons_succ, dR.eq_20, Mem.cell, Mem.row, wmA]
  refine LoopW_of (fun k ts m' => ∃ j, j + k = S.size ∧ m' = m ∧ ts 0 = .string S ∧ ts 3 = .int .i64 (j : Nat) ∧ wordN false S.data.toList = j + wordN (decide (0 < j)) (S.data.toList.drop j)) S.size ?_ ?_
  · exact ⟨0, by omega, rfl, by simp [frA_at], by simp, by simp⟩
  · rintro k ts m2 K ⟨j, hj, rfl, t0, t3, hw⟩ hK
    have hend : wordN (decide (0 < j)) (S.data.toList.drop j) = 0 → Q (.int .i64 (j : Nat)) m2 := fun h => by
      rw [h, Nat.add_zero] at hw
      rw [hw] at hq; exact hq
    simp -implicitDefEqProofs (disch := first | assumption | (simp only [wnA]; done) | (simp only [wnA]; omega) | omega | fail) [rc53_1, wkA, retV, stabOk, dC, ev, fillD, pickCells, putAt, bnd, slD, List.getElem?_cons_zero, List.getElem?_cons_succ, dR.eq_20, Mem.cell, Mem.row, wmA, t0, t3]
    rcases hd : S.data.toList.drop j with _ | ⟨c, r⟩
    · have hjj := drop_nil hd (by omega)
      have hn : ¬ j < S.size := by omega
      simp -implicitDefEqProofs (disch := first | assumption | (simp only [wnA]; done) | (simp only [wnA]; omega) | omega | fail) [wkA, retV, stabOk, dC, ev, fillD, pickCells, putAt, bnd, slD, List.getElem?_cons_zero, List.getElem?_cons_succ, dR.eq_20, Mem.cell, Mem.row, wmA, t0, t3, hn, rc53_2]
      exact hend (by rw [hd]; rfl)
    · obtain ⟨hlt, g1, hr⟩ := at_S hd
      rw [hd] at hw hend
      have next : wq (decide (0 < j)) c = true → ∀ ts' : Fr, ts' 0 = ts 0 → ts' 3 = .int .i64 ((j + 1 : Nat) : Int) → K ts' m2 := fun h ts' e0 e3 =>
        hK (k - 1) ts' m2 (by omega) ⟨j + 1, by omega, rfl, by rw [e0, t0], e3, by
          rw [hw, hr]
          simp only [wordN, h, if_true, Nat.zero_lt_succ, decide_true]
          omega⟩
      have stop : wq (decide (0 < j)) c = false → Q (.int .i64 (j : Nat)) m2 := fun h => hend (by simp [wordN, h])
      simp -implicitDefEqProofs (disch := first | assumption | (simp only [wnA]; done) | (simp only [wnA]; omega) | omega | fail) [wkA, retV, stabOk, dC, ev, fillD, pickCells, putAt, bnd, slD, List.getElem?_cons_zero, List.getElem?_cons_succ, dR.eq_20, Mem.cell, Mem.row, wmA, t0, t3, hlt, g1, getOf g1]
      refine c_letter ?_
      have w1 : IntKind.i64.wrap ((j : Int) + 1) = ((j + 1 : Nat) : Int) := by rw [w64 (by omega)]; omega
      cases hle : isLet c with
      | true =>
        simp -implicitDefEqProofs (disch := first | assumption | (simp only [wnA]; done) | (simp only [wnA]; omega) | omega | fail) [wkA, retV, stabOk, dC, ev, fillD, pickCells, putAt, bnd, slD, List.getElem?_cons_zero, List.getElem?_cons_succ, dR.eq_20, Mem.cell, Mem.row, wmA, t3, rc53_0, w1]
        exact next (by simp [wq, hle]) _ (by simp) (by simp)
      | false =>
        by_cases hj0 : 0 < j
        · have hj0' : (0 : Int) < (j : Int) := by omega
          simp -implicitDefEqProofs (disch := first | assumption | (simp only [wnA]; done) | (simp only [wnA]; omega) | omega | fail) [wkA, retV, stabOk, dC, ev, fillD, pickCells, putAt, bnd, slD, List.getElem?_cons_zero, List.getElem?_cons_succ, dR.eq_20, Mem.cell, Mem.row, wmA, t0, t3, hj0, hj0', g1, getOf g1, hlt]
          refine c_digit ?_
          cases hdi : isDig c with
          | true =>
            simp -implicitDefEqProofs (disch := first | assumption | (simp only [wnA]; done) | (simp only [wnA]; omega) | omega | fail) [wkA, retV, stabOk, dC, ev, fillD, pickCells, putAt, bnd, slD, List.getElem?_cons_zero, List.getElem?_cons_succ, dR.eq_20, Mem.cell, Mem.row, wmA, t3, rc53_0, w1]
            exact next (by simp [wq, hle, hdi, hj0]) _ (by simp) (by simp)
          | false =>
            by_cases h45 : c.toNat = 45
            · have i45 : (c.toNat : Int) = 45 := by omega
              simp -implicitDefEqProofs (disch := first | assumption | (simp only [wnA]; done) | (simp only [wnA]; omega) | omega | fail) [wkA, retV, stabOk, dC, ev, fillD, pickCells, putAt, bnd, slD, List.getElem?_cons_zero, List.getElem?_cons_succ, dR.eq_20, Mem.cell, Mem.row, wmA, t0, t3, g1, getOf g1, hlt, i45, rc53_0, w1]
              exact next (by simp [wq, hle, hdi, hj0, h45]) _ (by simp) (by simp)
            · have i45 : ¬ (c.toNat : Int) = 45 := by omega
              simp -implicitDefEqProofs (disch := first | assumption | (simp only [wnA]; done) | (simp only [wnA]; omega) | omega | fail) [wkA, retV, stabOk, dC, ev, fillD, pickCells, putAt, bnd, slD, List.getElem?_cons_zero, List.getElem?_cons_succ, dR.eq_20, Mem.cell, Mem.row, wmA, t0, t3, g1, getOf g1, hlt, beqF i45, rc53_2]
              exact stop (by simp [wq, hle, hdi, h45])
        · have hj0' : ¬ (0 : Int) < (j : Int) := by omega
          simp -implicitDefEqProofs (disch := first | assumption | (simp only [wnA]; done) | (simp only [wnA]; omega) | omega | fail) [wkA, retV, stabOk, dC, ev, fillD, pickCells, putAt, bnd, slD, List.getElem?_cons_zero, List.getElem?_cons_succ, dR.eq_20, Mem.cell, Mem.row, wmA, t0, t3, hj0, hj0', rc53_2]
          exact stop (by simp [wq, hle, hj0])
end Go.Proofs.YtgfkjldohilmkaaDoor.Ab
/- The tokens of a text: numbers. -/
set_option linter.unusedVariables false
set_option linter.unusedSimpArgs false
namespace Go.Proofs.YtgfkjldohilmkaaDoor.Ab
open Go Go.RowKit
set_option maxHeartbeats 1000000
set_option maxRecDepth 100000

theorem c_iByte {w0 : World} {m : Mem} {s : ByteArray} {c : UInt8} {Q : Value → Mem → Prop} (hq : Q (.int .i64 (Lib.indexByte s.data.toList c)) m) : AbC Tryd.prog w0 57 [.string s, .int .u8 (c.toNat : Int)] m Q := by
  refine AbC_fn ok57 (by simp) ?_
  simp -implicitDefEqProofs (disch := first | assumption | (simp only [wnA]; done) | (simp only [wnA]; omega) | omega | fail) [rc57, ro57, wkA, retV, stabOk, dC, ev, fillD, pickCells, putAt, bnd, slD, List.getElem?_cons_zero, List.getElem?_cons_succ, dR.eq_20, Mem.cell, Mem.row, wmA]
  refine AbC_fn ok69 (by simp) ?_
  simp -implicitDefEqProofs (disch := first | assumption | (simp only [wnA]; done) | (simp only [wnA]; omega) | omega | fail) [rc69, ro69, wkA, retV, stabOk, dC, ev, fillD, pickCells, putAt, bnd, slD, List.getElem?_cons_zero, List.getElem?_cons_succ, dR.eq_20, Mem.cell, Mem.row, wmA]
  refine x_idx xis75 ?_
  have e : ((c.toNat : Int)).toNat.toUInt8 = c := by
    show UInt8.ofNat ((c.toNat : Int)).toNat = c
    rw [Int.toNat_natCast]; simp
  rw [e]
  simp -implicitDefEqProofs (disch := first | assumption | (simp only [wnA]; done) | (simp only [wnA]; omega) | omega | fail) [wkA, retV, stabOk, dC, ev, fillD, pickCells, putAt, bnd, slD, List.getElem?_cons_zero, List.getElem?_cons_succ, dR.eq_20, Mem.cell, Mem.row, wmA]
  exact hq

theorem c_pre {w0 : World} {m : Mem} {s : ByteArray} {Q : Value → Mem → Prop} (hq : Q (.bool (hexH s.data.toList)) m) : AbC Tryd.prog w0 67 [.string s, .string ⟨#[48, 120]⟩] m Q := by
  refine AbC_fn ok67 (by simp) ?_
  simp -implicitDefEqProofs (disch := first | assumption | (simp only [wnA]; done) | (simp only [wnA]; omega) | omega | fail) [rc67, ro67, wkA, retV, stabOk, dC, ev, fillD, pickCells, putAt, bnd, slD, List.getElem?_cons_zero, List.getElem?_cons_succ, dR.eq_20, Mem.cell, Mem.row, wmA]
  refine AbC_fn ok72 (by simp) ?_
  have h2 : (ByteArray.mk #[48, 120]).size = 2 := rfl
  have hl : s.data.toList.length = s.size := by simp
  simp -implicitDefEqProofs (disch := first | assumption | (simp only [wnA]; done) | (simp only [wnA]; omega) | omega | fail) [rc72, ro72, wkA, retV, stabOk, dC, ev, fillD, pickCells, putAt, bnd, slD, List.getElem?_cons_zero, List.getElem?_cons_succ, dR.eq_20, Mem.cell, Mem.row, wmA, h2]
  have hq' := fun b (h : hexH s.data.toList = b) => h ▸ hq
  by_cases h : 2 ≤ s.size
  · have hi : (2 : Int) ≤ (s.size : Int) := by omega
    obtain ⟨a, b, r, hr⟩ : ∃ a b r, s.data.toList = a :: b :: r := by
      match s.data.toList, hl with
      | a :: b :: r, _ => exact ⟨a, b, r, rfl⟩
      | [], e => simp at e; omega
      | [_], e => simp at e; omega
    have hx : s.extract 0 2 = ⟨⟨[a, b]⟩⟩ := by rw [Lib.extract_eq, hr]; rfl
    simp -implicitDefEqProofs (disch := first | assumption | (simp only [wnA]; done) | (simp only [wnA]; omega) | omega | fail) [wkA, retV, stabOk, dC, ev, fillD, pickCells, putAt, bnd, slD, List.getElem?_cons_zero, List.getElem?_cons_succ, dR.eq_20, Mem.cell, Mem.row, wmA, h2, h, hi, hx]
    refine hq' _ ?_
    rw [hr]
    simp only [hexH]
    rw [Bool.eq_iff_iff]
    simp
    constructor
    · rintro ⟨x, y⟩; exact ⟨UInt8.toNat_inj.1 (by rw [x]; rfl), UInt8.toNat_inj.1 (by rw [y]; rfl)⟩
    · rintro ⟨x, y⟩; rw [x, y]; exact ⟨rfl, rfl⟩
  · have hi : ¬ (2 : Int) ≤ (s.size : Int) := by omega
    simp -implicitDefEqProofs (disch := first | assumption | (simp only [wnA]; done) | (simp only [wnA]; omega) | omega | fail) [wkA, retV, stabOk, dC, ev, fillD, pickCells, putAt, bnd, slD, List.getElem?_cons_zero, List.getElem?_cons_succ, dR.eq_20, Mem.cell, Mem.row, wmA, h2, h, hi]
    refine hq' _ ?_
    match hs : s.data.toList, hl with
    | [], _ => rfl
    | [_], _ => rfl
    | a :: b :: r, e => simp at e; omega

def sgS (B : Nat) : ByteArray := if B = 16 then ⟨#[48, 49, 50, 51, 52, 53, 54, 55, 56, 57, 97, 98, 99, 100, 101, 102]⟩ else ⟨#[48, 49, 50, 51, 52, 53, 54, 55, 56, 57]⟩
theorem sg10 (c : UInt8) : decide (0 ≤ Lib.indexByte (sgS 10).data.toList c) = inB 10 c :=
  beq_iff_eq.1 (allB (p := fun c => decide (0 ≤ Lib.indexByte (sgS 10).data.toList c) == inB 10 c) (by decide +kernel) c)
theorem sg16 (c : UInt8) : decide (0 ≤ Lib.indexByte (sgS 16).data.toList c) = inB 16 c :=
  beq_iff_eq.1 (allB (p := fun c => decide (0 ≤ Lib.indexByte (sgS 16).data.toList c) == inB 16 c) (by decide +kernel) c)
theorem sg_in {B : Nat} (h : B = 10 ∨ B = 16) (c : UInt8) : decide (0 ≤ Lib.indexByte (sgS B).data.toList c) = inB B c := by
  rcases h with rfl | rfl
  · exact sg10 c
  · exact sg16 c
theorem puL_le {B M : Nat} : ∀ (l : List UInt8) (n v : Nat), n ≤ M → puL B M n l = some v → v ≤ M
  | [], n, v, h, e => by simp [puL] at e; omega
  | c :: l, n, v, h, e => by
    simp only [puL] at e
    split at e
    · rename_i n' hs
      refine puL_le l n' v ?_ e
      unfold puStep at hs
      split at hs
      · split at hs
        · simp at hs; omega
        · cases hs
      · cases hs
    · cases e
theorem nB_or (l : List UInt8) : nB l = 10 ∨ nB l = 16 := by unfold nB; split <;> simp

theorem w_num3 {w0 : World} {m : Mem} {ts : Fr} {S : ByteArray} {Q : AQ} (hp : Part L0 m) (ht : Ten w0) (hE : ErrV w0) (hs : S.size ≤ 140737488355328)
    (t0 : ts 0 = .string S) (t5 : ts 5 = .int .i64 (nB S.data.toList : Nat)) (t6 : ts 6 = .int .i64 (nF S.data.toList : Nat)) (t8 : ts 8 = .int .i64 (nN S.data.toList : Nat))
    (h0 : ∀ ts' m', Old m m' → ts' 2 = .int .i64 0 → ts' 3 = .int .i64 0 → ts' 4 = .bool false → numV S.data.toList = none → Q .ret ts' m')
    (h1 : ∀ ts' m' v, Old m m' → ts' 2 = .int .i64 (nN S.data.toList : Nat) → ts' 3 = .int .i64 (v : Nat) → ts' 4 = .bool true → numV S.data.toList = some v → Q .ret ts' m') :
    AbW Tryd.prog w0 rc55_3 Q ts m := by
  have hB := nB_or S.data.toList
  have hl : S.data.toList.length = S.size := by simp
  have hfl := nF_le S.data.toList
  have hnl := nN_le S.data.toList
  have hfn : nF S.data.toList ≤ nN S.data.toList := by unfold nN; omega
  have hx : S.extract (nF S.data.toList) (nN S.data.toList) = ⟨⟨nDs S.data.toList⟩⟩ := by
    rw [Lib.extract_eq]
    unfold nDs
    rw [List.drop_take]
  have hx2 : (S.extract (nN S.data.toList) S.size).data.toList = S.data.toList.drop (nN S.data.toList) := by
    rw [Lib.extract_eq]
    show List.take _ _ = _
    exact List.take_of_length_le (by rw [List.length_drop]; omega)
  have hdl : (nDs S.data.toList).length ≤ S.size := by unfold nDs; rw [List.length_drop, List.length_take]; omega
  have hv : numV S.data.toList = match puL (nB S.data.toList) 4294967295 0 (nDs S.data.toList) with
      | some v => if digs (nB S.data.toList) v = nDs S.data.toList ∧ wordN false (S.data.toList.drop (nN S.data.toList)) = 0 then some v else none
      | none => none := rfl
  rw [hv] at h0
  have hv1 : ∀ v, puL (nB S.data.toList) 4294967295 0 (nDs S.data.toList) = some v → digs (nB S.data.toList) v = nDs S.data.toList → wordN false (S.data.toList.drop (nN S.data.toList)) = 0 → numV S.data.toList = some v := fun v a b c => by
    rw [hv, a]; simp [b, c]
  clear hv
  have hxs : (S.extract (nN S.data.toList) S.size).size ≤ 140737488355328 := by simp; omega
  generalize hNN : nN S.data.toList = N at *
  generalize hFF : nF S.data.toList = F at *
  generalize nB S.data.toList = B at *
  generalize nDs S.data.toList = D at *
  have c1 : (F : Int) ≤ (N : Int) := by omega
  have c2 : N ≤ S.size := by omega
  have c3 : (N : Int) ≤ (S.size : Int) := by omega
  simp -implicitDefEqProofs (disch := first | assumption | (simp only [wnA]; done) | (simp only [wnA]; omega) | omega | fail) [rc55_3, wkA, retV, stabOk, dC, ev, fillD, pickCells, putAt, bnd, slD, List.getElem?_cons_zero, List.getElem?_cons_succ, dR.eq_20, Mem.cell, Mem.row, wmA, t0, t5, t6, t8, c1, c2, c3, hfn, hx]
  refine c_ParseUint (B := B) (bits := 32) (M := 4294967295) (s := ⟨⟨D⟩⟩) hE (by omega) (.inl ⟨rfl, rfl⟩) (by show D.length ≤ _; omega) (fun m1 v p o1 hn => ?_) fun m1 v o1 hz hv => ?_
  · simp -implicitDefEqProofs (disch := first | assumption | (simp only [wnA]; done) | (simp only [wnA]; omega) | omega | fail) [wkA, retV, stabOk, dC, ev, fillD, pickCells, putAt, bnd, slD, List.getElem?_cons_zero, List.getElem?_cons_succ, dR.eq_20, Mem.cell, Mem.row, wmA, t0, t5, t6, t8]
    refine h0 _ _ o1 (by simp) (by simp) (by simp) ?_
    rcases hn with hn | hn
    · have hD : D = [] := by
        have : D.length = 0 := hn
        simpa using this
      subst hD
      have hne : ∀ v, ¬ digs B v = [] := fun v e => by have := digs_pos B v; rw [e] at this; simp at this
      split
      · rw [if_neg (fun h => hne _ h.1)]
      · rfl
    · have hn : puL B 4294967295 0 D = none := hn
      rw [hn]
  · have hv : puL B 4294967295 0 D = some v := hv
    have hvM := puL_le D 0 v (by omega) hv
    rw [hv] at h0
    have wv : IntKind.i64.wrap (v : Int) = (v : Int) := w64 (by omega)
    simp -implicitDefEqProofs (disch := first | assumption | (simp only [wnA]; done) | (simp only [wnA]; omega) | omega | fail) [wkA, retV, stabOk, dC, ev, fillD, pickCells, putAt, bnd, slD, List.getElem?_cons_zero, List.getElem?_cons_succ, dR.eq_20, Mem.cell, Mem.row, wmA, t0, t5, t6, t8, c1, c2, c3, hfn, hx]
    refine c_FormatUint (o1.part hp) ht (by omega) (by omega) fun m2 o2 => ?_
    have oo2 := o1.trans o2
    by_cases hd : digs B v = D
    · simp -implicitDefEqProofs (disch := first | assumption | (simp only [wnA]; done) | (simp only [wnA]; omega) | omega | fail) [wkA, retV, stabOk, dC, ev, fillD, pickCells, putAt, bnd, slD, List.getElem?_cons_zero, List.getElem?_cons_succ, dR.eq_20, Mem.cell, Mem.row, wmA, t0, t5, t6, t8, c1, c2, c3, hfn, hx, hd]
      refine c_word hxs ?_
      rw [hx2]
      by_cases hw : wordN false (S.data.toList.drop N) = 0
      · have e0 : ((wordN false (S.data.toList.drop N) : Nat) : Int) = 0 := by omega
        rw [e0]
        simp -implicitDefEqProofs (disch := first | assumption | (simp only [wnA]; done) | (simp only [wnA]; omega) | omega | fail) [wkA, retV, stabOk, dC, ev, fillD, pickCells, putAt, bnd, slD, List.getElem?_cons_zero, List.getElem?_cons_succ, dR.eq_20, Mem.cell, Mem.row, wmA, t8, rc55_2, wv]
        exact h1 _ _ v oo2 (by simp) (by simp) (by simp) (hv1 v hv hd hw)
      · have e0 : (0 : Int) < ((wordN false (S.data.toList.drop N) : Nat) : Int) := by omega
        have e1 : 0 < wordN false (S.data.toList.drop N) := by omega
        simp -implicitDefEqProofs (disch := first | assumption | (simp only [wnA]; done) | (simp only [wnA]; omega) | omega | fail) [wkA, retV, stabOk, dC, ev, fillD, pickCells, putAt, bnd, slD, List.getElem?_cons_zero, List.getElem?_cons_succ, dR.eq_20, Mem.cell, Mem.row, wmA, e0, e1]
        exact h0 _ _ oo2 (by simp) (by simp) (by simp) (by simp [hw])
    · have hd' : (digs B v == D) = false := by simpa using hd
      simp -implicitDefEqProofs (disch := first | assumption | (simp only [wnA]; done) | (simp only [wnA]; omega) | omega | fail) [wkA, retV, stabOk, dC, ev, fillD, pickCells, putAt, bnd, slD, List.getElem?_cons_zero, List.getElem?_cons_succ, dR.eq_20, Mem.cell, Mem.row, wmA, t0, t5, t6, t8, c1, c2, c3, hfn, hx, hd, hd']
      refine h0 _ _ oo2 ?_ ?_ ?_ (by simp [hd])
      · simp
      · simp
      · simp

theorem w_num {w0 : World} {m : Mem} {ts : Fr} {S : ByteArray} {Q : AQ} (hp : Part L0 m) (ht : Ten w0) (hE : ErrV w0) (hs : S.size ≤ 140737488355328)
    (t0 : ts 0 = .string S) (t5 : ts 5 = .int .i64 (nB S.data.toList : Nat)) (t6 : ts 6 = .int .i64 (nF S.data.toList : Nat)) (t7 : ts 7 = .string (sgS (nB S.data.toList)))
    (h0 : ∀ ts' m', Old m m' → ts' 2 = .int .i64 0 → ts' 3 = .int .i64 0 → ts' 4 = .bool false → numV S.data.toList = none → Q .ret ts' m')
    (h1 : ∀ ts' m' v, Old m m' → ts' 2 = .int .i64 (nN S.data.toList : Nat) → ts' 3 = .int .i64 (v : Nat) → ts' 4 = .bool true → numV S.data.toList = some v → Q .ret ts' m') :
    AbW Tryd.prog w0 rc55_4 Q ts m := by
  have hB := nB_or S.data.toList
  have hl : S.data.toList.length = S.size := by simp
  have hfl := nF_le S.data.toList
  have hnl := nN_le S.data.toList
  simp -implicitDefEqProofs (disch := first | assumption | (simp only [wnA]; done) | (simp only [wnA]; omega) | omega | fail) [rc55_4, wkA, retV, stabOk, dC, ev, fillD, pickCells, putAt, bnd, slD, List.getElem?_cons_zero, List.getElem?_cons_succ, dR.eq_20, Mem.cell, Mem.row, wmA, t6]
  refine LoopW_of (fun k ts' m' => ∃ j, j + k = S.size ∧ m' = m ∧ nF S.data.toList ≤ j ∧ ts' 0 = .string S ∧ ts' 5 = .int .i64 (nB S.data.toList : Nat) ∧ ts' 6 = .int .i64 (nF S.data.toList : Nat) ∧ ts' 7 = .string (sgS (nB S.data.toList)) ∧ ts' 8 = .int .i64 (j : Nat) ∧ nN S.data.toList = j + runN (inB (nB S.data.toList)) (S.data.toList.drop j)) (S.size - nF S.data.toList) ?_ ?_
  · exact ⟨nF S.data.toList, by omega, rfl, Nat.le_refl _, by simp [t0], by simp [t5], by simp [t6], by simp [t7], by simp, rfl⟩
  · rintro k ts2 m2 K ⟨j, hj, rfl, hfj, s0, s5, s6, s7, s8, hn'⟩ hK
    have hend : runN (inB (nB S.data.toList)) (S.data.toList.drop j) = 0 → AbW Tryd.prog w0 rc55_3 Q ts2 m2 := fun hz => w_num3 hp ht hE hs s0 s5 s6 (by rw [s8, hn', hz, Nat.add_zero]) h0 h1
    simp -implicitDefEqProofs (disch := first | assumption | (simp only [wnA]; done) | (simp only [wnA]; omega) | omega | fail) [rc55_1, wkA, retV, stabOk, dC, ev, fillD, pickCells, putAt, bnd, slD, List.getElem?_cons_zero, List.getElem?_cons_succ, dR.eq_20, Mem.cell, Mem.row, wmA, s0, s8]
    rcases hd : S.data.toList.drop j with _ | ⟨c, r⟩
    · have hjj := drop_nil hd (by omega)
      have hn : ¬ j < S.size := by omega
      have hend := w_num3 (w0 := w0) (m := m2) (ts := upd (upd (upd (upd (upd (upd (upd (upd (upd (upd (upd (upd ts2 14 (.int .i64 (j : Nat))) 15 (.string S)) 16 (.int .i64 (S.size : Nat))) 17 (.bool false)) 18 (.bool false)) 19 undef) 20 undef) 21 undef) 22 undef) 23 undef) 24 undef) 25 (.bool false)) hp ht hE hs (by simp [s0]) (by simp [s5]) (by simp [s6]) (by rw [hn', hd]; simp [s8, runN]) h0 h1
      simp -implicitDefEqProofs (disch := first | assumption | (simp only [wnA]; done) | (simp only [wnA]; omega) | omega | fail) [wkA, retV, stabOk, dC, ev, fillD, pickCells, putAt, bnd, slD, List.getElem?_cons_zero, List.getElem?_cons_succ, dR.eq_20, Mem.cell, Mem.row, wmA, s0, s8, hn]
      exact hend
    · obtain ⟨hlt, g1, hr⟩ := at_S hd
      simp -implicitDefEqProofs (disch := first | assumption | (simp only [wnA]; done) | (simp only [wnA]; omega) | omega | fail) [wkA, retV, stabOk, dC, ev, fillD, pickCells, putAt, bnd, slD, List.getElem?_cons_zero, List.getElem?_cons_succ, dR.eq_20, Mem.cell, Mem.row, wmA, s0, s7, s8, hlt, g1, getOf g1]
      refine c_iByte ?_
      have hin := sg_in hB c
      have w1 : IntKind.i64.wrap ((j : Int) + 1) = ((j + 1 : Nat) : Int) := by rw [w64 (by omega)]; omega
      rw [hd] at hn' hend
      cases hc : inB (nB S.data.toList) c with
      | true =>
        rw [hc] at hin
        have hin := of_decide_eq_true hin
        simp -implicitDefEqProofs (disch := first | assumption | (simp only [wnA]; done) | (simp only [wnA]; omega) | omega | fail) [wkA, retV, stabOk, dC, ev, fillD, pickCells, putAt, bnd, slD, List.getElem?_cons_zero, List.getElem?_cons_succ, dR.eq_20, Mem.cell, Mem.row, wmA, hin, s8, rc55_0, w1]
        exact hK (k - 1) _ m2 (by omega) ⟨j + 1, by omega, rfl, by omega, by simp [s0], by simp [s5], by simp [s6], by simp [s7], by simp, by rw [hn', hr]; simp only [runN, hc, if_true]; omega⟩
      | false =>
        rw [hc] at hin
        have hin := of_decide_eq_false hin
        have hend := w_num3 (w0 := w0) (m := m2) (ts := upd (upd (upd (upd (upd (upd (upd (upd (upd (upd (upd (upd ts2 14 (.int .i64 (j : Nat))) 15 (.string S)) 16 (.int .i64 (S.size : Nat))) 17 (.bool true)) 18 (.bool true)) 19 (.string (sgS (nB S.data.toList)))) 20 (.string S)) 21 (.int .i64 (j : Nat))) 22 (.int .u8 (c.toNat : Int))) 23 (.int .i64 (Lib.indexByte (sgS (nB S.data.toList)).data.toList c))) 24 (.bool false)) 25 (.bool false)) hp ht hE hs (by simp [s0]) (by simp [s5]) (by simp [s6]) (by rw [hn']; simp [s8, runN, hc]) h0 h1
        simp -implicitDefEqProofs (disch := first | assumption | (simp only [wnA]; done) | (simp only [wnA]; omega) | omega | fail) [wkA, retV, stabOk, dC, ev, fillD, pickCells, putAt, bnd, slD, List.getElem?_cons_zero, List.getElem?_cons_succ, dR.eq_20, Mem.cell, Mem.row, wmA, hin, s8]
        exact hend
theorem c_tnum {w0 : World} {m : Mem} {S : ByteArray} {Q : Value → Mem → Prop} (hp : Part L0 m) (ht : Ten w0) (hE : ErrV w0) (hs : S.size ≤ 140737488355328)
    (h0 : ∀ m', Old m m' → numV S.data.toList = none → Q (.tuple ⟨[.int .i64 0, .int .i64 0, .bool false]⟩) m')
    (h1 : ∀ m' v, Old m m' → numV S.data.toList = some v → Q (.tuple ⟨[.int .i64 (nN S.data.toList : Nat), .int .i64 (v : Nat), .bool true]⟩) m') :
    AbC Tryd.prog w0 55 [.string S] m Q := by
  refine AbC_fn ok55 (by simp) ?_
  have r0 : ∀ ts' m', Old m m' → ts' 2 = .int .i64 0 → ts' 3 = .int .i64 0 → ts' 4 = .bool false → numV S.data.toList = none → bodyA ro55 Q .ret ts' m' := fun ts' m' o e2 e3 e4 hn => by
    simp -implicitDefEqProofs (disch := first | assumption | (simp only [wnA]; done) | (simp only [wnA]; omega) | omega | fail) [ro55, wkA, retV, stabOk, dC, ev, fillD, pickCells, putAt, bnd, slD, List.getElem?_cons_zero, List.getElem?_cons_succ, dR.eq_20, Mem.cell, Mem.row, wmA, e2, e3, e4]
    exact h0 m' o hn
  have r1 : ∀ ts' m' (v : Nat), Old m m' → ts' 2 = .int .i64 (nN S.data.toList : Nat) → ts' 3 = .int .i64 (v : Nat) → ts' 4 = .bool true → numV S.data.toList = some v → bodyA ro55 Q .ret ts' m' := fun ts' m' v o e2 e3 e4 hn => by
    simp -implicitDefEqProofs (disch := first | assumption | (simp only [wnA]; done) | (simp only [wnA]; omega) | omega | fail) [ro55, wkA, retV, stabOk, dC, ev, fillD, pickCells, putAt, bnd, slD, List.getElem?_cons_zero, List.getElem?_cons_succ, dR.eq_20, Mem.cell, Mem.row, wmA, e2, e3, e4]
    exact h1 m' v o hn
  simp -implicitDefEqProofs (disch := first | assumption | (simp only [wnA]; done) | (simp only [wnA]; omega) | omega | fail) [rc55, wkA, retV, stabOk, dC, ev, fillD, pickCells, putAt, bnd, slD, List.getElem?_cons_zero, List.getElem?_cons_succ, dR.eq_20, Mem.cell, Mem.row, wmA]
  refine c_pre ?_
  cases hh : hexH S.data.toList with
  | true =>
    have eB : nB S.data.toList = 16 := by simp [nB, hh]
    have eF : nF S.data.toList = 2 := by simp [nF, hh]
    simp -implicitDefEqProofs (disch := first | assumption | (simp only [wnA]; done) | (simp only [wnA]; omega) | omega | fail) [wkA, retV, stabOk, dC, ev, fillD, pickCells, putAt, bnd, slD, List.getElem?_cons_zero, List.getElem?_cons_succ, dR.eq_20, Mem.cell, Mem.row, wmA]
    exact w_num hp ht hE hs (by simp [frA_at]) (by rw [eB]; simp) (by rw [eF]; simp) (by rw [eB]; simp [sgS]) r0 r1
  | false =>
    have eB : nB S.data.toList = 10 := by simp [nB, hh]
    have eF : nF S.data.toList = 0 := by simp [nF, hh]
    simp -implicitDefEqProofs (disch := first | assumption | (simp only [wnA]; done) | (simp only [wnA]; omega) | omega | fail) [wkA, retV, stabOk, dC, ev, fillD, pickCells, putAt, bnd, slD, List.getElem?_cons_zero, List.getElem?_cons_succ, dR.eq_20, Mem.cell, Mem.row, wmA]
    exact w_num hp ht hE hs (by simp [frA_at]) (by rw [eB]; simp) (by rw [eF]; simp) (by rw [eB]; simp [sgS]) r0 r1
end Go.Proofs.YtgfkjldohilmkaaDoor.Ab
/- The tokens of a text: texts in quotes. -/
set_option linter.unusedVariables false
set_option linter.unusedSimpArgs false
namespace Go.Proofs.YtgfkjldohilmkaaDoor.Ab
open Go Go.RowKit
set_option maxHeartbeats 1000000
set_option maxRecDepth 100000

def escS : List UInt8 := [92, 34, 114, 110]
theorem esc_no (c : UInt8) : decide (Lib.indexByte escS c < 0) = (escD c).isNone :=
  beq_iff_eq.1 (allB (p := fun c => decide (Lib.indexByte escS c < 0) == (escD c).isNone) (by decide +kernel) c)
theorem esc_in {c x : UInt8} (h : escD c = some x) : (c.toNat = 114 ∧ x = 13) ∨ (c.toNat ≠ 114 ∧ c.toNat = 110 ∧ x = 10) ∨ (c.toNat ≠ 114 ∧ c.toNat ≠ 110 ∧ x = c) := by
  unfold escD at h
  split at h
  · rename_i hc
    simp at h; subst h
    exact .inr (.inr ⟨by omega, by omega, UInt8.toNat_inj.1 (by rw [hc]; rfl)⟩)
  · split at h
    · rename_i hc
      simp at h; subst h
      exact .inr (.inr ⟨by omega, by omega, UInt8.toNat_inj.1 (by rw [hc]; rfl)⟩)
    · split at h
      · simp at h; subst h
        exact .inl ⟨by assumption, rfl⟩
      · split at h
        · simp at h; subst h
          exact .inr (.inl ⟨by assumption, by assumption, rfl⟩)
        · cases h

theorem qd_q {c : UInt8} {r : List UInt8} (h : c.toNat = 34) : qd (c :: r) = some (1, []) := by
  cases r <;> simp [qd, h]
theorem qd_bad {c : UInt8} {r : List UInt8} (h : c.toNat < 32 ∨ 126 < c.toNat) : qd (c :: r) = none := by
  have h34 : ¬ c.toNat = 34 := by omega
  cases r <;> simp [qd, h, h34]
theorem qd_ch {c : UInt8} {r : List UInt8} (h : ¬ (c.toNat < 32 ∨ 126 < c.toNat)) (h34 : c.toNat ≠ 34) (h92 : c.toNat ≠ 92) : qd (c :: r) = (qd r).map fun p => (p.1 + 1, c :: p.2) := by
  cases r with
  | nil => simp [qd, h34]
  | cons e r => simp [qd, h, h34, h92]
theorem qd_e0 {c : UInt8} (h : c.toNat = 92) : qd [c] = none := by simp [qd, h]
theorem qd_e1 {c e : UInt8} {r : List UInt8} (h : c.toNat = 92) (he : escD e = none) : qd (c :: e :: r) = none := by simp [qd, h, he]
theorem qd_e2 {c e x : UInt8} {r : List UInt8} (h : c.toNat = 92) (he : escD e = some x) : qd (c :: e :: r) = (qd r).map fun p => (p.1 + 2, x :: p.2) := by simp [qd, h, he]

theorem c_tquo {w0 : World} {m : Mem} {S : ByteArray} {Q : Value → Mem → Prop} (hs1 : 1 ≤ S.size) (hs : S.size ≤ 1000000000)
    (h0 : ∀ m', Old m m' → qd (S.data.toList.drop 1) = none → Q (.tuple ⟨[.int .i64 0, .string ⟨#[]⟩, .bool false]⟩) m')
    (h1 : ∀ m' n t, Old m m' → qd (S.data.toList.drop 1) = some (n, t) → Q (.tuple ⟨[.int .i64 (n + 1 : Nat), .string ⟨⟨t⟩⟩, .bool true]⟩) m') :
    AbC Tryd.prog w0 56 [.string S] m Q := by
  refine AbC_fn ok56 (by simp) ?_
  simp -implicitDefEqProofs (disch := first | assumption | (simp only [wnA]; done) | (simp only [wnA]; omega) | omega | fail) [rc56, ro56, wkA, retV, stabOk, dC, ev, fillD, pickCells, putAt, bnd, slD, List.getElem?_cons_zero, List.getElem?_cons_succ, dR.eq_20, Mem.cell, Mem.row, wmA]
  have r0 : ∀ (ts' : Fr) m', Old m m' → ts' 2 = .int .i64 0 → ts' 3 = .string ⟨#[]⟩ → ts' 4 = .bool false → qd (S.data.toList.drop 1) = none → bodyA ro56 Q .ret ts' m' := fun ts' m' o e2 e3 e4 hn => by
    simp -implicitDefEqProofs (disch := first | assumption | (simp only [wnA]; done) | (simp only [wnA]; omega) | omega | fail) [ro56, wkA, retV, stabOk, dC, ev, fillD, pickCells, putAt, bnd, slD, List.getElem?_cons_zero, List.getElem?_cons_succ, dR.eq_20, Mem.cell, Mem.row, wmA, e2, e3, e4]
    exact h0 m' o hn
  simp only [ro56] at r0
  refine LoopW_of (fun k ts m' => ∃ j out, j + k = S.size ∧ 1 ≤ j ∧ out.length < j ∧ ts 0 = .string S ∧ ts 6 = .int .i64 (j : Nat) ∧ ts 5 = .pointer (some ⟨m.next, 0, none⟩) ∧ Bld m m' m.next out ∧ qd (S.data.toList.drop 1) = (qd (S.data.toList.drop j)).map fun p => (p.1 + (j - 1), out ++ p.2)) (S.size - 1) ?_ ?_
  · exact ⟨1, [], by omega, by omega, by simp, by simp [frA_at], by simp, by simp, Bld.new (Old.refl m), by simp⟩
  · rintro k ts m2 K ⟨j, out, hj, hj1, hol, t0, t6, t5, hb, hqd⟩ hK
    simp -implicitDefEqProofs (disch := first | assumption | (simp only [wnA]; done) | (simp only [wnA]; omega) | omega | fail) [rc56_3, wkA, retV, stabOk, dC, ev, fillD, pickCells, putAt, bnd, slD, List.getElem?_cons_zero, List.getElem?_cons_succ, dR.eq_20, Mem.cell, Mem.row, wmA, t0, t6]
    rcases hd : S.data.toList.drop j with _ | ⟨c, r⟩
    · have hjj := drop_nil hd (by omega)
      have hn : ¬ j < S.size := by omega
      rw [hd] at hqd
      simp -implicitDefEqProofs (disch := first | assumption | (simp only [wnA]; done) | (simp only [wnA]; omega) | omega | fail) [wkA, retV, stabOk, dC, ev, fillD, pickCells, putAt, bnd, slD, List.getElem?_cons_zero, List.getElem?_cons_succ, dR.eq_20, Mem.cell, Mem.row, wmA, t0, t6, hn, rc56_4]
      exact h0 m2 hb.1 (by rw [hqd]; rfl)
    · obtain ⟨hlt, g1, hr⟩ := at_S hd
      rw [hd] at hqd
      have hjw : IntKind.i64.wrap ((j : Int) + 1) = ((j + 1 : Nat) : Int) := by rw [w64 (by omega)]; omega
      have hjw2 : IntKind.i64.wrap (((j + 1 : Nat) : Int) + 1) = ((j + 2 : Nat) : Int) := by rw [w64 (by omega)]; omega
      have hob : out.length + 1 ≤ 140737488355328 := by omega
      by_cases h34 : c.toNat = 34
      · have i34 : (c.toNat : Int) = 34 := by omega
        simp -implicitDefEqProofs (disch := first | assumption | (simp only [wnA]; done) | (simp only [wnA]; omega) | omega | fail) [wkA, retV, stabOk, dC, ev, fillD, pickCells, putAt, bnd, slD, List.getElem?_cons_zero, List.getElem?_cons_succ, dR.eq_20, Mem.cell, Mem.row, wmA, t0, t5, t6, hlt, g1, getOf g1, rc56_2, i34, hjw]
        refine c_BString hb (by omega) fun m3 h3 => ?_
        simp -implicitDefEqProofs (disch := first | assumption | (simp only [wnA]; done) | (simp only [wnA]; omega) | omega | fail) [wkA, retV, stabOk, dC, ev, fillD, pickCells, putAt, bnd, slD, List.getElem?_cons_zero, List.getElem?_cons_succ, dR.eq_20, Mem.cell, Mem.row, wmA]
        have := h1 m3 j out h3 (by rw [hqd, qd_q h34]; simp; omega)
        exact this
      · have i34 : ¬ (c.toNat : Int) = 34 := by omega
        by_cases hbad : c.toNat < 32 ∨ 126 < c.toNat
        · have hno : qd (S.data.toList.drop 1) = none := by rw [hqd, qd_bad hbad]; rfl
          by_cases h32 : c.toNat < 32
          · have i32 : (c.toNat : Int) < 32 := by omega
            simp -implicitDefEqProofs (disch := first | assumption | (simp only [wnA]; done) | (simp only [wnA]; omega) | omega | fail) [wkA, retV, stabOk, dC, ev, fillD, pickCells, putAt, bnd, slD, List.getElem?_cons_zero, List.getElem?_cons_succ, dR.eq_20, Mem.cell, Mem.row, wmA, t0, t5, t6, hlt, g1, getOf g1, rc56_2, beqF i34, ltT i32]
            exact h0 m2 hb.1 hno
          · have i32 : (32 : Int) ≤ (c.toNat : Int) := by omega
            have i126 : (126 : Int) < (c.toNat : Int) := by omega
            simp -implicitDefEqProofs (disch := first | assumption | (simp only [wnA]; done) | (simp only [wnA]; omega) | omega | fail) [wkA, retV, stabOk, dC, ev, fillD, pickCells, putAt, bnd, slD, List.getElem?_cons_zero, List.getElem?_cons_succ, dR.eq_20, Mem.cell, Mem.row, wmA, t0, t5, t6, hlt, g1, getOf g1, rc56_2, beqF i34, ltF i32, gtT i126]
            exact h0 m2 hb.1 hno
        · have i32 : (32 : Int) ≤ (c.toNat : Int) := by omega
          have i126 : (c.toNat : Int) ≤ 126 := by omega
          by_cases h92 : c.toNat = 92
          · have i92 : (c.toNat : Int) = 92 := by omega
            rcases r with _ | ⟨e, r⟩
            · have hno : qd (S.data.toList.drop 1) = none := by rw [hqd, qd_e0 h92]; rfl
              have hjs := drop_nil hr (by omega)
              have ijs : (j : Int) + 1 = (S.size : Int) := by omega
              simp -implicitDefEqProofs (disch := first | assumption | (simp only [wnA]; done) | (simp only [wnA]; omega) | omega | fail) [wkA, retV, stabOk, dC, ev, fillD, pickCells, putAt, bnd, slD, List.getElem?_cons_zero, List.getElem?_cons_succ, dR.eq_20, Mem.cell, Mem.row, wmA, t0, t5, t6, hlt, g1, getOf g1, rc56_2, rc56_1, beqF i34, ltF i32, gtF i126, bneF i92, hjw, beqT ijs]
              exact h0 m2 hb.1 hno
            · obtain ⟨hlt2, g2, hr2⟩ := at_S hr
              have ijs : (j : Int) + 1 ≠ (S.size : Int) := by omega
              have hj2 : ((j : Int) + 1).toNat = j + 1 := by omega
              have hj3 : (0 : Int) ≤ (j : Int) + 1 := by omega
              simp -implicitDefEqProofs (disch := first | assumption | (simp only [wnA]; done) | (simp only [wnA]; omega) | omega | fail) [wkA, retV, stabOk, dC, ev, fillD, pickCells, putAt, bnd, slD, List.getElem?_cons_zero, List.getElem?_cons_succ, dR.eq_20, Mem.cell, Mem.row, wmA, t0, t5, t6, hlt, g1, getOf g1, rc56_2, rc56_1, beqF i34, ltF i32, gtF i126, bneF i92, hjw, beqF ijs, hlt2, g2, getOf g2, hj2, hj3]
              refine c_iByte ?_
              have hes := esc_no e
              cases he : escD e with
              | none =>
                have hno : qd (S.data.toList.drop 1) = none := by rw [hqd, qd_e1 h92 he]; rfl
                rw [he] at hes
                have hes := of_decide_eq_true hes
                simp only [escS] at hes
                simp -implicitDefEqProofs (disch := first | assumption | (simp only [wnA]; done) | (simp only [wnA]; omega) | omega | fail) [wkA, retV, stabOk, dC, ev, fillD, pickCells, putAt, bnd, slD, List.getElem?_cons_zero, List.getElem?_cons_succ, dR.eq_20, Mem.cell, Mem.row, wmA, hes]
                exact h0 m2 hb.1 hno
              | some x =>
                rw [he] at hes
                have hes2 : (0 : Int) ≤ Lib.indexByte [92, 34, 114, 110] e := by
                  have := of_decide_eq_false hes
                  simp only [escS] at this
                  omega
                have hjw3 : IntKind.i64.wrap ((j : Int) + 1 + 1) = (j : Int) + 1 + 1 := w64 (by omega)
                have fin : ∀ (ts' : Fr) (m' : Mem), ts' 0 = ts 0 → ts' 5 = ts 5 → ts' 6 = .int .i64 ((j : Int) + 1 + 1) → Bld m m' m.next (out ++ [x]) → K ts' m' := fun ts' m' e0 e5 e6 hb' =>
                  hK (k - 2) ts' m' (by omega) ⟨j + 2, out ++ [x], by omega, by omega, by simp; omega, by rw [e0, t0], by rw [e6]; congr 1, by rw [e5, t5], hb', by
                    rw [hqd, qd_e2 h92 he, Option.map_map]
                    have hd2 : S.data.toList.drop (j + 2) = r := hr2
                    rw [hd2]
                    congr 1
                    funext p
                    simp
                    omega⟩
                rcases esc_in he with ⟨a1, rfl⟩ | ⟨a1, a2, rfl⟩ | ⟨a1, a2, rfl⟩
                · have i1 : (e.toNat : Int) = 114 := by omega
                  simp -implicitDefEqProofs (disch := first | assumption | (simp only [wnA]; done) | (simp only [wnA]; omega) | omega | fail) [wkA, retV, stabOk, dC, ev, fillD, pickCells, putAt, bnd, slD, List.getElem?_cons_zero, List.getElem?_cons_succ, dR.eq_20, Mem.cell, Mem.row, wmA, ltF hes2, rc56_0, t0, t5, t6, hlt2, g2, getOf g2, hj2, hj3, i1]
                  refine c_WriteByte (b := 13) hb hob fun m3 h3 => ?_
                  simp -implicitDefEqProofs (disch := first | assumption | (simp only [wnA]; done) | (simp only [wnA]; omega) | omega | fail) [wkA, retV, stabOk, dC, ev, fillD, pickCells, putAt, bnd, slD, List.getElem?_cons_zero, List.getElem?_cons_succ, dR.eq_20, Mem.cell, Mem.row, wmA, hjw3]
                  exact fin _ m3 (by simp) (by simp) (by simp) h3
                · have i1 : ¬ (e.toNat : Int) = 114 := by omega
                  have i2 : (e.toNat : Int) = 110 := by omega
                  simp -implicitDefEqProofs (disch := first | assumption | (simp only [wnA]; done) | (simp only [wnA]; omega) | omega | fail) [wkA, retV, stabOk, dC, ev, fillD, pickCells, putAt, bnd, slD, List.getElem?_cons_zero, List.getElem?_cons_succ, dR.eq_20, Mem.cell, Mem.row, wmA, ltF hes2, rc56_0, t0, t5, t6, hlt2, g2, getOf g2, hj2, hj3, beqF i1, i2]
                  refine c_WriteByte (b := 10) hb hob fun m3 h3 => ?_
                  simp -implicitDefEqProofs (disch := first | assumption | (simp only [wnA]; done) | (simp only [wnA]; omega) | omega | fail) [wkA, retV, stabOk, dC, ev, fillD, pickCells, putAt, bnd, slD, List.getElem?_cons_zero, List.getElem?_cons_succ, dR.eq_20, Mem.cell, Mem.row, wmA, hjw3]
                  exact fin _ m3 (by simp) (by simp) (by simp) h3
                · have i1 : ¬ (x.toNat : Int) = 114 := by omega
                  have i2 : ¬ (x.toNat : Int) = 110 := by omega
                  simp -implicitDefEqProofs (disch := first | assumption | (simp only [wnA]; done) | (simp only [wnA]; omega) | omega | fail) [wkA, retV, stabOk, dC, ev, fillD, pickCells, putAt, bnd, slD, List.getElem?_cons_zero, List.getElem?_cons_succ, dR.eq_20, Mem.cell, Mem.row, wmA, ltF hes2, rc56_0, t0, t5, t6, hlt2, g2, getOf g2, hj2, hj3, beqF i1, beqF i2]
                  refine c_WriteByte hb hob fun m3 h3 => ?_
                  simp -implicitDefEqProofs (disch := first | assumption | (simp only [wnA]; done) | (simp only [wnA]; omega) | omega | fail) [wkA, retV, stabOk, dC, ev, fillD, pickCells, putAt, bnd, slD, List.getElem?_cons_zero, List.getElem?_cons_succ, dR.eq_20, Mem.cell, Mem.row, wmA, hjw3]
                  exact fin _ m3 (by simp) (by simp) (by simp) h3
          · have i92 : ¬ (c.toNat : Int) = 92 := by omega
            simp -implicitDefEqProofs (disch := first | assumption | (simp only [wnA]; done) | (simp only [wnA]; omega) | omega | fail) [wkA, retV, stabOk, dC, ev, fillD, pickCells, putAt, bnd, slD, List.getElem?_cons_zero, List.getElem?_cons_succ, dR.eq_20, Mem.cell, Mem.row, wmA, t0, t5, t6, hlt, g1, getOf g1, rc56_2, beqF i34, ltF i32, gtF i126, bneT i92]
            refine c_WriteByte hb hob fun m3 h3 => ?_
            simp -implicitDefEqProofs (disch := first | assumption | (simp only [wnA]; done) | (simp only [wnA]; omega) | omega | fail) [wkA, retV, stabOk, dC, ev, fillD, pickCells, putAt, bnd, slD, List.getElem?_cons_zero, List.getElem?_cons_succ, dR.eq_20, Mem.cell, Mem.row, wmA, t6, hjw]
            exact hK (k - 1) _ m3 (by omega) ⟨j + 1, out ++ [c], by omega, by omega, by simp; omega, by simp [t0], by simp, by simp [t5], h3, by
              rw [hqd, hr, qd_ch hbad h34 h92, Option.map_map]
              congr 1
              funext p
              simp
              omega⟩
end Go.Proofs.YtgfkjldohilmkaaDoor.Ab
/- The tokens of a text: one token. -/
set_option linter.unusedVariables false
set_option linter.unusedSimpArgs false
namespace Go.Proofs.YtgfkjldohilmkaaDoor.Ab
open Go Go.RowKit
set_option maxHeartbeats 1000000
set_option maxRecDepth 100000

def sgnS : List UInt8 := [58, 59, 44, 123, 125]
theorem sgn_in (c : UInt8) : decide (0 ≤ Lib.indexByte sgnS c) = isSg c :=
  beq_iff_eq.1 (allB (p := fun c => decide (0 ≤ Lib.indexByte sgnS c) == isSg c) (by decide +kernel) c)
theorem let_dig {c : UInt8} (h : isLet c = true) : isDig c = false := by
  simp only [isLet, Bool.and_eq_true, decide_eq_true_eq] at h
  simp only [isDig, Bool.and_eq_false_iff, decide_eq_false_iff_not]
  omega
theorem ext0 {S : ByteArray} {n : Nat} : S.extract 0 n = ⟨⟨S.data.toList.take n⟩⟩ := by
  rw [Lib.extract_eq]; simp

theorem c_tone {w0 : World} {m : Mem} {S : ByteArray} {Q : Value → Mem → Prop} (hp : Part L0 m) (ht : Ten w0) (hE : ErrV w0) (hs1 : 1 ≤ S.size) (hs : S.size ≤ 1000000)
    (h0 : ∀ m' (t : Tk), Old m m' → oneL S.data.toList = none → Q (.tuple ⟨[.agg ⟨t.cells 0⟩, .int .i64 0]⟩) m')
    (h1 : ∀ m' (t : Tk) (n : Nat), Old m m' → oneL S.data.toList = some (t, n) → Q (.tuple ⟨[.agg ⟨t.cells 0⟩, .int .i64 n]⟩) m') :
    AbC Tryd.prog w0 41 [.string S] m Q := by
  refine AbC_fn ok41 (by simp) ?_
  have hl : S.data.toList.length = S.size := by simp
  obtain ⟨c, r, hr⟩ : ∃ c r, S.data.toList = c :: r := by
    match S.data.toList, hl with
    | c :: r, _ => exact ⟨c, r, rfl⟩
    | [], e => simp at e; omega
  obtain ⟨hlt, g1, hr1⟩ := at_S (S := S) (j := 0) (c := c) (r := r) (by rw [List.drop_zero, hr])
  simp only [Nat.zero_add] at hr1
  have o1 : Old m (m.push (.own [.int .i64 0, .string ⟨#[]⟩, .int .i64 0, .int .i64 0] 78)) := (Old.refl m).push _
  have gT : (m.push (.own [.int .i64 0, .string ⟨#[]⟩, .int .i64 0, .int .i64 0] 78)).get m.next = .own [.int .i64 0, .string ⟨#[]⟩, .int .i64 0, .int .i64 0] 78 := by simp
  have nT : m.next + 1 = (m.push (.own [.int .i64 0, .string ⟨#[]⟩, .int .i64 0, .int .i64 0] 78)).next := by simp
  simp -implicitDefEqProofs (disch := first | assumption | (simp only [wnA]; done) | (simp only [wnA]; omega) | omega | fail) [rc41, ro41, wkA, retV, stabOk, dC, ev, fillD, pickCells, putAt, bnd, slD, List.getElem?_cons_zero, List.getElem?_cons_succ, dR.eq_20, Mem.cell, Mem.row, wmA, hlt, g1, getOf g1]
  generalize m.push (.own [.int .i64 0, .string ⟨#[]⟩, .int .i64 0, .int .i64 0] 78) = m1 at *
  refine c_letter ?_
  cases hle : isLet c with
  | true =>
    have ho : oneL S.data.toList = some (⟨1, S.data.toList.take (wordN false S.data.toList), 0⟩, wordN false S.data.toList) := by rw [hr]; simp [oneL, hle]
    have hwl := wordN_le false S.data.toList
    simp -implicitDefEqProofs (disch := first | assumption | (simp only [wnA]; done) | (simp only [wnA]; omega) | omega | fail) [wkA, retV, stabOk, dC, ev, fillD, pickCells, putAt, bnd, slD, List.getElem?_cons_zero, List.getElem?_cons_succ, dR.eq_20, Mem.cell, Mem.row, wmA]
    refine c_word (by omega) ?_
    generalize wordN false S.data.toList = n at *
    have hn : n ≤ S.size := by omega
    have hn2 : (n : Int) ≤ (S.size : Int) := by omega
    simp -implicitDefEqProofs (disch := first | assumption | (simp only [wnA]; done) | (simp only [wnA]; omega) | omega | fail) [wkA, retV, stabOk, dC, ev, fillD, pickCells, putAt, bnd, slD, List.getElem?_cons_zero, List.getElem?_cons_succ, dR.eq_20, Mem.cell, Mem.row, wmA, hn, hn2, ext0]
    refine SK_st (i := m.next) (o := 0) (by simp [wkA, retV, stabOk, dC, ev, fillD, pickCells, putAt, bnd, slD, List.getElem?_cons_zero, List.getElem?_cons_succ, dR.eq_20]) (e := 78) gT (by simp) (by simp [wkA, retV, stabOk, dC, ev, fillD, pickCells, putAt, bnd, slD, List.getElem?_cons_zero, List.getElem?_cons_succ, dR.eq_20]) (by simp [wkA, retV, stabOk, dC, ev, fillD, pickCells, putAt, bnd, slD, List.getElem?_cons_zero, List.getElem?_cons_succ, dR.eq_20, oneC]) ?_
    simp -implicitDefEqProofs (disch := first | assumption | (simp only [wnA]; done) | (simp only [wnA]; omega) | omega | fail) [wkA, retV, stabOk, dC, ev, fillD, pickCells, putAt, bnd, slD, List.getElem?_cons_zero, List.getElem?_cons_succ, dR.eq_20, Mem.cell, Mem.row, wmA]
    exact h1 _ ⟨1, S.data.toList.take n, 0⟩ n (o1.set (Nat.le_refl _) _) ho
  | false =>
    simp -implicitDefEqProofs (disch := first | assumption | (simp only [wnA]; done) | (simp only [wnA]; omega) | omega | fail) [wkA, retV, stabOk, dC, ev, fillD, pickCells, putAt, bnd, slD, List.getElem?_cons_zero, List.getElem?_cons_succ, dR.eq_20, Mem.cell, Mem.row, wmA]
    refine c_digit ?_
    cases hdi : isDig c with
    | true =>
      have ho : oneL S.data.toList = (numV S.data.toList).map fun v => ((⟨2, S.data.toList.take (nN S.data.toList), ((v : Nat) : Int)⟩ : Tk), nN S.data.toList) := by rw [hr]; simp [oneL, hle, hdi]
      have hnl := nN_le S.data.toList
      simp -implicitDefEqProofs (disch := first | assumption | (simp only [wnA]; done) | (simp only [wnA]; omega) | omega | fail) [wkA, retV, stabOk, dC, ev, fillD, pickCells, putAt, bnd, slD, List.getElem?_cons_zero, List.getElem?_cons_succ, dR.eq_20, Mem.cell, Mem.row, wmA]
      refine c_tnum (o1.part hp) ht hE (by omega) (fun m2 o2 hn => ?_) fun m2 v o2 hn => ?_
      · rw [← o2.2 _ (by omega)] at gT
        have e0 : S.extract 0 0 = ⟨#[]⟩ := by rw [ext0]; rfl
        simp -implicitDefEqProofs (disch := first | assumption | (simp only [wnA]; done) | (simp only [wnA]; omega) | omega | fail) [wkA, retV, stabOk, dC, ev, fillD, pickCells, putAt, bnd, slD, List.getElem?_cons_zero, List.getElem?_cons_succ, dR.eq_20, Mem.cell, Mem.row, wmA, e0]
        refine SK_st (i := m.next) (o := 0) (by simp [wkA, retV, stabOk, dC, ev, fillD, pickCells, putAt, bnd, slD, List.getElem?_cons_zero, List.getElem?_cons_succ, dR.eq_20]) (e := 78) gT (by simp) (by simp [wkA, retV, stabOk, dC, ev, fillD, pickCells, putAt, bnd, slD, List.getElem?_cons_zero, List.getElem?_cons_succ, dR.eq_20]) (by simp [wkA, retV, stabOk, dC, ev, fillD, pickCells, putAt, bnd, slD, List.getElem?_cons_zero, List.getElem?_cons_succ, dR.eq_20, oneC]) ?_
        simp -implicitDefEqProofs (disch := first | assumption | (simp only [wnA]; done) | (simp only [wnA]; omega) | omega | fail) [wkA, retV, stabOk, dC, ev, fillD, pickCells, putAt, bnd, slD, List.getElem?_cons_zero, List.getElem?_cons_succ, dR.eq_20, Mem.cell, Mem.row, wmA]
        exact h0 _ ⟨2, [], 0⟩ ((o1.trans o2).set (Nat.le_refl _) _) (by rw [ho, hn]; rfl)
      · rw [← o2.2 _ (by omega)] at gT
        generalize nN S.data.toList = n at *
        have hn1 : n ≤ S.size := by omega
        have hn2 : (n : Int) ≤ (S.size : Int) := by omega
        simp -implicitDefEqProofs (disch := first | assumption | (simp only [wnA]; done) | (simp only [wnA]; omega) | omega | fail) [wkA, retV, stabOk, dC, ev, fillD, pickCells, putAt, bnd, slD, List.getElem?_cons_zero, List.getElem?_cons_succ, dR.eq_20, Mem.cell, Mem.row, wmA, hn1, hn2, ext0]
        refine SK_st (i := m.next) (o := 0) (by simp [wkA, retV, stabOk, dC, ev, fillD, pickCells, putAt, bnd, slD, List.getElem?_cons_zero, List.getElem?_cons_succ, dR.eq_20]) (e := 78) gT (by simp) (by simp [wkA, retV, stabOk, dC, ev, fillD, pickCells, putAt, bnd, slD, List.getElem?_cons_zero, List.getElem?_cons_succ, dR.eq_20]) (by simp [wkA, retV, stabOk, dC, ev, fillD, pickCells, putAt, bnd, slD, List.getElem?_cons_zero, List.getElem?_cons_succ, dR.eq_20, oneC]) ?_
        simp -implicitDefEqProofs (disch := first | assumption | (simp only [wnA]; done) | (simp only [wnA]; omega) | omega | fail) [wkA, retV, stabOk, dC, ev, fillD, pickCells, putAt, bnd, slD, List.getElem?_cons_zero, List.getElem?_cons_succ, dR.eq_20, Mem.cell, Mem.row, wmA]
        exact h1 _ ⟨2, S.data.toList.take n, v⟩ n ((o1.trans o2).set (Nat.le_refl _) _) (by rw [ho, hn]; rfl)
    | false =>
      simp -implicitDefEqProofs (disch := first | assumption | (simp only [wnA]; done) | (simp only [wnA]; omega) | omega | fail) [wkA, retV, stabOk, dC, ev, fillD, pickCells, putAt, bnd, slD, List.getElem?_cons_zero, List.getElem?_cons_succ, dR.eq_20, Mem.cell, Mem.row, wmA]
      by_cases h34 : c.toNat = 34
      · have i34 : (c.toNat : Int) = 34 := by omega
        have ho : oneL S.data.toList = (qd (S.data.toList.drop 1)).map fun p => (⟨3, p.2, 0⟩, p.1 + 1) := by rw [hr]; simp [oneL, hle, hdi, h34]
        simp -implicitDefEqProofs (disch := first | assumption | (simp only [wnA]; done) | (simp only [wnA]; omega) | omega | fail) [wkA, retV, stabOk, dC, ev, fillD, pickCells, putAt, bnd, slD, List.getElem?_cons_zero, List.getElem?_cons_succ, dR.eq_20, Mem.cell, Mem.row, wmA, i34]
        refine c_tquo hs1 (by omega) (fun m2 o2 hn => ?_) fun m2 n t o2 hn => ?_
        · rw [← o2.2 _ (by omega)] at gT
          simp -implicitDefEqProofs (disch := first | assumption | (simp only [wnA]; done) | (simp only [wnA]; omega) | omega | fail) [wkA, retV, stabOk, dC, ev, fillD, pickCells, putAt, bnd, slD, List.getElem?_cons_zero, List.getElem?_cons_succ, dR.eq_20, Mem.cell, Mem.row, wmA]
          refine SK_st (i := m.next) (o := 0) (by simp [wkA, retV, stabOk, dC, ev, fillD, pickCells, putAt, bnd, slD, List.getElem?_cons_zero, List.getElem?_cons_succ, dR.eq_20]) (e := 78) gT (by simp) (by simp [wkA, retV, stabOk, dC, ev, fillD, pickCells, putAt, bnd, slD, List.getElem?_cons_zero, List.getElem?_cons_succ, dR.eq_20]) (by simp [wkA, retV, stabOk, dC, ev, fillD, pickCells, putAt, bnd, slD, List.getElem?_cons_zero, List.getElem?_cons_succ, dR.eq_20, oneC]) ?_
          simp -implicitDefEqProofs (disch := first | assumption | (simp only [wnA]; done) | (simp only [wnA]; omega) | omega | fail) [wkA, retV, stabOk, dC, ev, fillD, pickCells, putAt, bnd, slD, List.getElem?_cons_zero, List.getElem?_cons_succ, dR.eq_20, Mem.cell, Mem.row, wmA]
          exact h0 _ ⟨3, [], 0⟩ ((o1.trans o2).set (Nat.le_refl _) _) (by rw [ho, hn]; rfl)
        · rw [← o2.2 _ (by omega)] at gT
          generalize hN : n + 1 = N at *
          simp -implicitDefEqProofs (disch := first | assumption | (simp only [wnA]; done) | (simp only [wnA]; omega) | omega | fail) [wkA, retV, stabOk, dC, ev, fillD, pickCells, putAt, bnd, slD, List.getElem?_cons_zero, List.getElem?_cons_succ, dR.eq_20, Mem.cell, Mem.row, wmA]
          refine SK_st (i := m.next) (o := 0) (by simp [wkA, retV, stabOk, dC, ev, fillD, pickCells, putAt, bnd, slD, List.getElem?_cons_zero, List.getElem?_cons_succ, dR.eq_20]) (e := 78) gT (by simp) (by simp [wkA, retV, stabOk, dC, ev, fillD, pickCells, putAt, bnd, slD, List.getElem?_cons_zero, List.getElem?_cons_succ, dR.eq_20]) (by simp [wkA, retV, stabOk, dC, ev, fillD, pickCells, putAt, bnd, slD, List.getElem?_cons_zero, List.getElem?_cons_succ, dR.eq_20, oneC]) ?_
          simp -implicitDefEqProofs (disch := first | assumption | (simp only [wnA]; done) | (simp only [wnA]; omega) | omega | fail) [wkA, retV, stabOk, dC, ev, fillD, pickCells, putAt, bnd, slD, List.getElem?_cons_zero, List.getElem?_cons_succ, dR.eq_20, Mem.cell, Mem.row, wmA]
          exact h1 _ ⟨3, t, 0⟩ N ((o1.trans o2).set (Nat.le_refl _) _) (by rw [ho, hn]; simp [hN])
      · have i34 : ¬ (c.toNat : Int) = 34 := by omega
        simp -implicitDefEqProofs (disch := first | assumption | (simp only [wnA]; done) | (simp only [wnA]; omega) | omega | fail) [wkA, retV, stabOk, dC, ev, fillD, pickCells, putAt, bnd, slD, List.getElem?_cons_zero, List.getElem?_cons_succ, dR.eq_20, Mem.cell, Mem.row, wmA, beqF i34]
        refine c_iByte ?_
        have hin := sgn_in c
        cases hsg : isSg c with
        | true =>
          have ho : oneL S.data.toList = some (⟨4, [c], 0⟩, 1) := by rw [hr]; simp [oneL, hle, hdi, h34, hsg]
          have hin2 : (0 : Int) ≤ Lib.indexByte [58, 59, 44, 123, 125] c := by
            rw [hsg] at hin
            exact of_decide_eq_true hin
          have e1 : S.extract 0 1 = ⟨⟨[c]⟩⟩ := by rw [ext0, hr]; rfl
          have hs1' : (1 : Int) ≤ (S.size : Int) := by omega
          simp -implicitDefEqProofs (disch := first | assumption | (simp only [wnA]; done) | (simp only [wnA]; omega) | omega | fail) [wkA, retV, stabOk, dC, ev, fillD, pickCells, putAt, bnd, slD, List.getElem?_cons_zero, List.getElem?_cons_succ, dR.eq_20, Mem.cell, Mem.row, wmA, hin2, hs1, hs1', e1]
          refine SK_st (i := m.next) (o := 0) (by simp [wkA, retV, stabOk, dC, ev, fillD, pickCells, putAt, bnd, slD, List.getElem?_cons_zero, List.getElem?_cons_succ, dR.eq_20]) (e := 78) gT (by simp) (by simp [wkA, retV, stabOk, dC, ev, fillD, pickCells, putAt, bnd, slD, List.getElem?_cons_zero, List.getElem?_cons_succ, dR.eq_20]) (by simp [wkA, retV, stabOk, dC, ev, fillD, pickCells, putAt, bnd, slD, List.getElem?_cons_zero, List.getElem?_cons_succ, dR.eq_20, oneC]) ?_
          simp -implicitDefEqProofs (disch := first | assumption | (simp only [wnA]; done) | (simp only [wnA]; omega) | omega | fail) [wkA, retV, stabOk, dC, ev, fillD, pickCells, putAt, bnd, slD, List.getElem?_cons_zero, List.getElem?_cons_succ, dR.eq_20, Mem.cell, Mem.row, wmA]
          exact h1 _ ⟨4, [c], 0⟩ 1 (o1.set (Nat.le_refl _) _) ho
        | false =>
          have ho : oneL S.data.toList = none := by rw [hr]; simp [oneL, hle, hdi, h34, hsg]
          have hin2 : Lib.indexByte [58, 59, 44, 123, 125] c < 0 := by
            rw [hsg] at hin
            have := of_decide_eq_false hin
            simp only [sgnS] at this
            omega
          simp -implicitDefEqProofs (disch := first | assumption | (simp only [wnA]; done) | (simp only [wnA]; omega) | omega | fail) [wkA, retV, stabOk, dC, ev, fillD, pickCells, putAt, bnd, slD, List.getElem?_cons_zero, List.getElem?_cons_succ, dR.eq_20, Mem.cell, Mem.row, wmA, leF hin2, rc41_0]
          refine SK_st (i := m.next) (o := 0) (by simp [wkA, retV, stabOk, dC, ev, fillD, pickCells, putAt, bnd, slD, List.getElem?_cons_zero, List.getElem?_cons_succ, dR.eq_20]) (e := 78) gT (by simp) (by simp [wkA, retV, stabOk, dC, ev, fillD, pickCells, putAt, bnd, slD, List.getElem?_cons_zero, List.getElem?_cons_succ, dR.eq_20]) (by simp [wkA, retV, stabOk, dC, ev, fillD, pickCells, putAt, bnd, slD, List.getElem?_cons_zero, List.getElem?_cons_succ, dR.eq_20, oneC]) ?_
          simp -implicitDefEqProofs (disch := first | assumption | (simp only [wnA]; done) | (simp only [wnA]; omega) | omega | fail) [wkA, retV, stabOk, dC, ev, fillD, pickCells, putAt, bnd, slD, List.getElem?_cons_zero, List.getElem?_cons_succ, dR.eq_20, Mem.cell, Mem.row, wmA]
          exact h0 _ ⟨0, [], 0⟩ (o1.set (Nat.le_refl _) _) ho
end Go.Proofs.YtgfkjldohilmkaaDoor.Ab
/- The tokens of a text: token.Cut. -/
set_option linter.unusedVariables false
set_option linter.unusedSimpArgs false
namespace Go.Proofs.YtgfkjldohilmkaaDoor.Ab
open Go Go.RowKit
set_option maxHeartbeats 1000000
set_option maxRecDepth 100000

def cellP (p : Tk × Nat) : List Value := p.1.cells p.2
theorem cellP_len (p : Tk × Nat) : (cellP p).length = 4 := rfl
theorem cellsP_len (l : List (Tk × Nat)) : (l.flatMap cellP).length = l.length * 4 := by
  induction l with
  | nil => rfl
  | cons p l ih => simp only [List.flatMap_cons, List.length_append, ih, cellP_len, List.length_cons]; omega
def faultV (no a : Nat) : Value := .iface 84 (.agg ⟨[.int .i64 (no : Int), .int .i64 (a : Int)]⟩)
theorem c_Wrap {w0 : World} {m : Mem} {no a : Nat} {Q : Value → Mem → Prop} (hq : Q (faultV no a) m) : AbC Tryd.prog w0 40 [.int .i64 (no : Int), .int .i64 (a : Int)] m Q := by
  refine AbC_fn ok40 (by simp) ?_
  simp -implicitDefEqProofs (disch := first | assumption | (simp only [wnA]; done) | (simp only [wnA]; omega) | omega | fail) [rc40, ro40, wkA, retV, stabOk, dC, ev, fillD, pickCells, putAt, bnd, slD, List.getElem?_cons_zero, List.getElem?_cons_succ, dR.eq_20, Mem.cell, Mem.row, wmA]
  exact hq

/-- The state in which a text is cut further. -/
def CS (S : ByteArray) (b : Mem) (k : Nat) (ts : Fr) (m : Mem) : Prop := ∃ (a : Nat) (out : List (Tk × Nat)) (ob : Option Nat), a + k = S.size ∧ Old b m ∧ ts 0 = .string S ∧ ts 4 = slV ob out.length 4 ∧ ts 5 = .int .i64 (a : Nat) ∧
  SlO m 78 4 ob (out.flatMap cellP) out.length ∧ (∀ i, ob = some i → b.next ≤ i) ∧ out.length ≤ a ∧ cutL 0 S.data.toList = preC out (cutL a (S.data.toList.drop a))
theorem CS.move {S : ByteArray} {b m : Mem} {k k' : Nat} {ts ts' : Fr} {a a' : Nat} {out : List (Tk × Nat)} {ob : Option Nat} (h1 : a + k = S.size) (h2 : Old b m) (h3 : ts 0 = .string S) (h4 : ts 4 = slV ob out.length 4) (h6 : SlO m 78 4 ob (out.flatMap cellP) out.length) (h7 : ∀ i, ob = some i → b.next ≤ i) (h8 : out.length ≤ a)
    (e0 : ts' 0 = ts 0) (e4 : ts' 4 = ts 4) (e5 : ts' 5 = .int .i64 (a' : Nat)) (ha : a ≤ a') (hk : a' + k' = S.size) (hc : cutL 0 S.data.toList = preC out (cutL a' (S.data.toList.drop a'))) : CS S b k' ts' m :=
  ⟨a', out, ob, hk, h2, by rw [e0, h3], by rw [e4, h4], e5, h6, h7, by omega, hc⟩

theorem w_cmt {w0 : World} {Q : AQ} {ts : Fr} {m : Mem} {S : ByteArray} {a : Nat} (hs : S.size ≤ 4096) (ha : a ≤ S.size) (t0 : ts 0 = .string S) (t5 : ts 5 = .int .i64 (a : Nat))
    (hq : ∀ ts', ts' 0 = ts 0 → ts' 4 = ts 4 → ts' 5 = .int .i64 ((a + runN no10 (S.data.toList.drop a) : Nat) : Int) → Q (.exit 0) ts' m) : LoopW (AbW Tryd.prog w0 rc29_1) Q ts m := by
  refine LoopW_of (fun k ts' m' => ∃ j, j + k = S.size ∧ m' = m ∧ ts' 0 = ts 0 ∧ ts' 4 = ts 4 ∧ ts' 5 = .int .i64 (j : Nat) ∧ a + runN no10 (S.data.toList.drop a) = j + runN no10 (S.data.toList.drop j)) (S.size - a) ?_ ?_
  · exact ⟨a, by omega, rfl, rfl, rfl, t5, rfl⟩
  · rintro k ts2 m2 K ⟨j, hj, rfl, s0, s4, s5, hn⟩ hK
    rw [t0] at s0
    simp -implicitDefEqProofs (disch := first | assumption | (simp only [wnA]; done) | (simp only [wnA]; omega) | omega | fail) [rc29_1, wkA, retV, stabOk, dC, ev, fillD, pickCells, putAt, bnd, slD, List.getElem?_cons_zero, List.getElem?_cons_succ, dR.eq_20, Mem.cell, Mem.row, wmA, s0, s5]
    rcases hd : S.data.toList.drop j with _ | ⟨c, r⟩
    · have hjj := drop_nil hd (by omega)
      have hlt : ¬ j < S.size := by omega
      rw [hd] at hn
      simp -implicitDefEqProofs (disch := first | assumption | (simp only [wnA]; done) | (simp only [wnA]; omega) | omega | fail) [wkA, retV, stabOk, dC, ev, fillD, pickCells, putAt, bnd, slD, List.getElem?_cons_zero, List.getElem?_cons_succ, dR.eq_20, Mem.cell, Mem.row, wmA, s0, s5, hlt]
      exact hq _ (by simp [s0, t0]) (by simp [s4]) (by simp [s5, hn, runN])
    · obtain ⟨hlt, g1, hr⟩ := at_S hd
      have w1 : IntKind.i64.wrap ((j : Int) + 1) = (j : Int) + 1 := w64 (by omega)
      rw [hd] at hn
      by_cases h10 : c.toNat = 10
      · have i10 : (c.toNat : Int) = 10 := by omega
        simp -implicitDefEqProofs (disch := first | assumption | (simp only [wnA]; done) | (simp only [wnA]; omega) | omega | fail) [wkA, retV, stabOk, dC, ev, fillD, pickCells, putAt, bnd, slD, List.getElem?_cons_zero, List.getElem?_cons_succ, dR.eq_20, Mem.cell, Mem.row, wmA, s0, s5, hlt, g1, getOf g1, i10]
        exact hq _ (by simp [s0, t0]) (by simp [s4]) (by rw [hn]; simp [s5, runN, no10, h10])
      · have i10 : ¬ (c.toNat : Int) = 10 := by omega
        simp -implicitDefEqProofs (disch := first | assumption | (simp only [wnA]; done) | (simp only [wnA]; omega) | omega | fail) [wkA, retV, stabOk, dC, ev, fillD, pickCells, putAt, bnd, slD, List.getElem?_cons_zero, List.getElem?_cons_succ, dR.eq_20, Mem.cell, Mem.row, wmA, s0, s5, hlt, g1, getOf g1, bneT i10, rc29_0, w1]
        exact hK (k - 1) _ m2 (by omega) ⟨j + 1, by omega, rfl, by simp [s0, t0], by simp [s4], by simp, by rw [hn, hr]; simp only [runN, no10, bne_iff_ne, ne_eq, h10, not_false_eq_true, if_true]; omega⟩

theorem w_cut {w0 : World} {Q : AQ} {ts : Fr} {b m : Mem} {S : ByteArray} {k : Nat} (hp : Part L0 b) (ht : Ten w0) (hE : ErrV w0) (hs : S.size ≤ 4096) (hst : CS S b k ts m)
    (hg : ∀ k' ts' m', k' < k → CS S b k' ts' m' → Q (.goto 0) ts' m')
    (he : ∀ (ts' : Fr) m' (a : Nat), Old b m' → ts' 2 = .slice none 0 0 → ts' 3 = faultV 1 a → cutL 0 S.data.toList = .inl a → Q .ret ts' m')
    (hq : ∀ (ts' : Fr) m' i us, Old b m' → ts' 2 = slV (some i) us.length 4 → ts' 3 = .nilIface → SlO m' 78 4 (some i) (us.flatMap cellP) us.length → b.next ≤ i → us.length ≤ S.size + 1 → cutL 0 S.data.toList = .inr us → Q .ret ts' m') :
    AbW Tryd.prog w0 rc29_6 Q ts m := by
  obtain ⟨a, out, ob, h1, h2, t0, t4, t5, h6, h7, h8, hc⟩ := hst
  have hl := cellsP_len out
  simp -implicitDefEqProofs (disch := first | assumption | (simp only [wnA]; done) | (simp only [wnA]; omega) | omega | fail) [rc29_6, wkA, retV, stabOk, dC, ev, fillD, pickCells, putAt, bnd, slD, List.getElem?_cons_zero, List.getElem?_cons_succ, dR.eq_20, Mem.cell, Mem.row, wmA, t0, t5]
  rcases hd : S.data.toList.drop a with _ | ⟨c, r⟩
  · have haa := drop_nil hd (by omega)
    have ia : (a : Int) = (S.size : Int) := by omega
    rw [hd, cutL_nil] at hc
    simp -implicitDefEqProofs (disch := first | assumption | (simp only [wnA]; done) | (simp only [wnA]; omega) | omega | fail) [wkA, retV, stabOk, dC, ev, fillD, pickCells, putAt, bnd, slD, List.getElem?_cons_zero, List.getElem?_cons_succ, dR.eq_20, Mem.cell, Mem.row, wmA, beqT ia, t4, t5]
    rw [SK_bsl (cs := cellP (endT, a)) (by simp [wkA, retV, stabOk, dC, ev, fillD, pickCells, putAt, bnd, slD, List.getElem?_cons_zero, List.getElem?_cons_succ, dR.eq_20, cellP, Tk.cells, endT]) (by simp [cellP, Tk.cells, oneC])]
    simp -implicitDefEqProofs (disch := first | assumption | (simp only [wnA]; done) | (simp only [wnA]; omega) | omega | fail) [wkA, retV, stabOk, dC, ev, fillD, pickCells, putAt, bnd, slD, List.getElem?_cons_zero, List.getElem?_cons_succ, dR.eq_20, Mem.cell, Mem.row, wmA, t4]
    refine SK_ap (h6.push _) (by simp [wkA, retV, stabOk, dC, ev, fillD, pickCells, putAt, bnd, slD, List.getElem?_cons_zero, List.getElem?_cons_succ, dR.eq_20, t4]) (ys := cellP (endT, a)) (by simp -implicitDefEqProofs (disch := first | assumption | (simp only [wnA]; done) | (simp only [wnA]; omega) | omega | fail) [wkA, retV, stabOk, dC, ev, fillD, pickCells, putAt, bnd, slD, List.getElem?_cons_zero, List.getElem?_cons_succ, dR.eq_20, elemsV, Mem.cell, Mem.row, wmA, cellP, Tk.cells]) (k := 1) (by simp [wkA, retV, stabOk, dC, ev, fillD, pickCells, putAt, bnd, slD, List.getElem?_cons_zero, List.getElem?_cons_succ, dR.eq_20]) (by simp) (by simp [oneC, cellP, Tk.cells]) (by omega) (by simp only [maxLen]; omega) (by simp [cellP, Tk.cells]) ?_
    simp -implicitDefEqProofs (disch := first | assumption | (simp only [wnA]; done) | (simp only [wnA]; omega) | omega | fail) [wkA, retV, stabOk, dC, ev, fillD, pickCells, putAt, bnd, slD, List.getElem?_cons_zero, List.getElem?_cons_succ, dR.eq_20, Mem.cell, Mem.row, wmA]
    have hnew : SlO (((m.push (.own (cellP (endT, a)) 78)).kill ob).push (.own (out.flatMap cellP ++ cellP (endT, a)) 78)) 78 4 (some (m.next + 1)) (out.flatMap cellP ++ cellP (endT, a)) (out.length + 1) := SlO.new (m := (m.push (.own (cellP (endT, a)) 78)).kill ob) (e := 78) (sz := 4) (n := out.length + 1) (cs := out.flatMap cellP ++ cellP (endT, a)) (by rw [List.length_append, hl, cellP_len]; omega)
    refine hq _ _ (m.next + 1) (out ++ [(endT, a)]) (((h2.push _).kill h7).push _) (by simp) (by simp) ?_ (by have := h2.1; omega) (by simp; omega) (by rw [hc]; rfl)
    simpa using hnew
  · obtain ⟨hlt, g1, hr⟩ := at_S hd
    have ia : ¬ (a : Int) = (S.size : Int) := by omega
    have w1 : IntKind.i64.wrap ((a : Int) + 1) = (a : Int) + 1 := w64 (by omega)
    rw [hd] at hc
    simp -implicitDefEqProofs (disch := first | assumption | (simp only [wnA]; done) | (simp only [wnA]; omega) | omega | fail) [wkA, retV, stabOk, dC, ev, fillD, pickCells, putAt, bnd, slD, List.getElem?_cons_zero, List.getElem?_cons_succ, dR.eq_20, Mem.cell, Mem.row, wmA, beqF ia]
    have bl : isBl c = true → ∀ ts' : Fr, ts' 0 = ts 0 → ts' 4 = ts 4 → ts' 5 = .int .i64 ((a + 1 : Nat) : Int) → Q (.goto 0) ts' m := fun hb ts' e0 e4 e5 =>
      hg (k - 1) ts' m (by omega) (CS.move h1 h2 t0 t4 h6 h7 h8 e0 e4 e5 (by omega) (by omega) (by rw [hc, cutL_bl hb, hr]))
    by_cases h32 : c.toNat = 32
    · have i32 : (c.toNat : Int) = 32 := by omega
      simp -implicitDefEqProofs (disch := first | assumption | (simp only [wnA]; done) | (simp only [wnA]; omega) | omega | fail) [wkA, retV, stabOk, dC, ev, fillD, pickCells, putAt, bnd, slD, List.getElem?_cons_zero, List.getElem?_cons_succ, dR.eq_20, Mem.cell, Mem.row, wmA, t0, t5, hlt, g1, getOf g1, rc29_5, i32, w1]
      exact bl (by simp [isBl, h32]) _ (by simp) (by simp) (by simp)
    · have i32 : ¬ (c.toNat : Int) = 32 := by omega
      by_cases h9 : c.toNat = 9
      · have i9 : (c.toNat : Int) = 9 := by omega
        simp -implicitDefEqProofs (disch := first | assumption | (simp only [wnA]; done) | (simp only [wnA]; omega) | omega | fail) [wkA, retV, stabOk, dC, ev, fillD, pickCells, putAt, bnd, slD, List.getElem?_cons_zero, List.getElem?_cons_succ, dR.eq_20, Mem.cell, Mem.row, wmA, t0, t5, hlt, g1, getOf g1, rc29_5, i9, w1]
        exact bl (by simp [isBl, h9]) _ (by simp) (by simp) (by simp)
      · have i9 : ¬ (c.toNat : Int) = 9 := by omega
        by_cases h10 : c.toNat = 10
        · have i10 : (c.toNat : Int) = 10 := by omega
          simp -implicitDefEqProofs (disch := first | assumption | (simp only [wnA]; done) | (simp only [wnA]; omega) | omega | fail) [wkA, retV, stabOk, dC, ev, fillD, pickCells, putAt, bnd, slD, List.getElem?_cons_zero, List.getElem?_cons_succ, dR.eq_20, Mem.cell, Mem.row, wmA, t0, t5, hlt, g1, getOf g1, rc29_5, i10, w1]
          exact bl (by simp [isBl, h10]) _ (by simp) (by simp) (by simp)
        · have i10 : ¬ (c.toNat : Int) = 10 := by omega
          have hnb : isBl c = false := by simp [isBl, h32, h9, h10]
          simp -implicitDefEqProofs (disch := first | assumption | (simp only [wnA]; done) | (simp only [wnA]; omega) | omega | fail) [wkA, retV, stabOk, dC, ev, fillD, pickCells, putAt, bnd, slD, List.getElem?_cons_zero, List.getElem?_cons_succ, dR.eq_20, Mem.cell, Mem.row, wmA, t0, t5, hlt, g1, getOf g1, rc29_5, beqF i32, beqF i9, beqF i10, rc29_4]
          by_cases h35 : c.toNat = 35
          · have i35 : (c.toNat : Int) = 35 := by omega
            have hcm := run_cm (r := r) h35
            have hle := runN_le no10 (c :: r)
            have hdl := congrArg List.length hd
            rw [List.length_drop] at hdl
            have hsz : S.data.toList.length = S.size := by simp
            simp -implicitDefEqProofs (disch := first | assumption | (simp only [wnA]; done) | (simp only [wnA]; omega) | omega | fail) [wkA, retV, stabOk, dC, ev, fillD, pickCells, putAt, bnd, slD, List.getElem?_cons_zero, List.getElem?_cons_succ, dR.eq_20, Mem.cell, Mem.row, wmA, t0, t5, hlt, g1, getOf g1, i35]
            refine w_cmt (S := S) (a := a) hs (by omega) (by simp [t0]) (by simp [t5]) fun ts' e0 e4 e5 => ?_
            simp -implicitDefEqProofs (disch := first | assumption | (simp only [wnA]; done) | (simp only [wnA]; omega) | omega | fail) [wkA, retV, stabOk, dC, ev, fillD, pickCells, putAt, bnd, slD, List.getElem?_cons_zero, List.getElem?_cons_succ, dR.eq_20]
            rw [hd] at e5
            exact hg (S.size - (a + runN no10 (c :: r))) ts' m (by omega) (CS.move h1 h2 t0 t4 h6 h7 h8 (by rw [e0]; simp) (by rw [e4]; simp) e5 (by omega) (by omega) (by rw [hc, cutL_cm hnb h35, ← hd, List.drop_drop]))
          · have i35 : ¬ (c.toNat : Int) = 35 := by omega
            have ha1 : a ≤ S.size := by omega
            have ha2 : (a : Int) ≤ (S.size : Int) := by omega
            have hx : (S.extract a S.size).data.toList = S.data.toList.drop a := by
              rw [Lib.extract_eq]
              show List.take _ _ = _
              exact List.take_of_length_le (by simp)
            have hxs : (S.extract a S.size).size = S.size - a := by simp
            simp -implicitDefEqProofs (disch := first | assumption | (simp only [wnA]; done) | (simp only [wnA]; omega) | omega | fail) [wkA, retV, stabOk, dC, ev, fillD, pickCells, putAt, bnd, slD, List.getElem?_cons_zero, List.getElem?_cons_succ, dR.eq_20, Mem.cell, Mem.row, wmA, t0, t5, hlt, ha1, ha2, g1, getOf g1, beqF i35, rc29_3]
            refine c_tone (h2.part hp) ht hE (by omega) (by omega) (fun m1 t o1 hn => ?_) fun m1 t n o1 hn => ?_
            · rw [hx, hd] at hn
              simp -implicitDefEqProofs (disch := first | assumption | (simp only [wnA]; done) | (simp only [wnA]; omega) | omega | fail) [wkA, retV, stabOk, dC, ev, fillD, pickCells, putAt, bnd, slD, List.getElem?_cons_zero, List.getElem?_cons_succ, dR.eq_20, Mem.cell, Mem.row, wmA, Tk.cells]
              refine SK_st (i := m1.next) (o := 0) (by simp [wkA, retV, stabOk, dC, ev, fillD, pickCells, putAt, bnd, slD, List.getElem?_cons_zero, List.getElem?_cons_succ, dR.eq_20]) (e := 78) (by simp -implicitDefEqProofs (disch := first | assumption | (simp only [wnA]; done) | (simp only [wnA]; omega) | omega | fail) [Mem.cell, Mem.row, wmA]; rfl) (by simp) (by simp [wkA, retV, stabOk, dC, ev, fillD, pickCells, putAt, bnd, slD, List.getElem?_cons_zero, List.getElem?_cons_succ, dR.eq_20]) (by simp [wkA, retV, stabOk, dC, ev, fillD, pickCells, putAt, bnd, slD, List.getElem?_cons_zero, List.getElem?_cons_succ, dR.eq_20, oneC]) ?_
              simp -implicitDefEqProofs (disch := first | assumption | (simp only [wnA]; done) | (simp only [wnA]; omega) | omega | fail) [wkA, retV, stabOk, dC, ev, fillD, pickCells, putAt, bnd, slD, List.getElem?_cons_zero, List.getElem?_cons_succ, dR.eq_20, Mem.cell, Mem.row, wmA, t5]
              refine c_Wrap (no := 1) ?_
              simp -implicitDefEqProofs (disch := first | assumption | (simp only [wnA]; done) | (simp only [wnA]; omega) | omega | fail) [wkA, retV, stabOk, dC, ev, fillD, pickCells, putAt, bnd, slD, List.getElem?_cons_zero, List.getElem?_cons_succ, dR.eq_20, Mem.cell, Mem.row, wmA]
              exact he _ _ a (((h2.trans o1).push _).set (by have := h2.1; have := o1.1; omega) _) (by simp) (by simp) (by rw [hc, cutL_none hnb h35 hn]; rfl)
            · rw [hx, hd] at hn
              have hnl := oneL_len hn
              have hdl := congrArg List.length hd
              rw [List.length_drop] at hdl
              have hsz : S.data.toList.length = S.size := by simp
              have n0 : ¬ (n : Int) = 0 := by omega
              simp -implicitDefEqProofs (disch := first | assumption | (simp only [wnA]; done) | (simp only [wnA]; omega) | omega | fail) [wkA, retV, stabOk, dC, ev, fillD, pickCells, putAt, bnd, slD, List.getElem?_cons_zero, List.getElem?_cons_succ, dR.eq_20, Mem.cell, Mem.row, wmA, Tk.cells]
              refine SK_st (i := m1.next) (o := 0) (by simp [wkA, retV, stabOk, dC, ev, fillD, pickCells, putAt, bnd, slD, List.getElem?_cons_zero, List.getElem?_cons_succ, dR.eq_20]) (e := 78) (by simp -implicitDefEqProofs (disch := first | assumption | (simp only [wnA]; done) | (simp only [wnA]; omega) | omega | fail) [Mem.cell, Mem.row, wmA]; rfl) (by simp) (by simp [wkA, retV, stabOk, dC, ev, fillD, pickCells, putAt, bnd, slD, List.getElem?_cons_zero, List.getElem?_cons_succ, dR.eq_20]) (by simp [wkA, retV, stabOk, dC, ev, fillD, pickCells, putAt, bnd, slD, List.getElem?_cons_zero, List.getElem?_cons_succ, dR.eq_20, oneC]) ?_
              simp -implicitDefEqProofs (disch := first | assumption | (simp only [wnA]; done) | (simp only [wnA]; omega) | omega | fail) [wkA, retV, stabOk, dC, ev, fillD, pickCells, putAt, bnd, slD, List.getElem?_cons_zero, List.getElem?_cons_succ, dR.eq_20, Mem.cell, Mem.row, wmA, beqF n0, rc29_2, t5]
              refine SK_st (i := m1.next) (o := 3) (by simp [wkA, retV, stabOk, dC, ev, fillD, pickCells, putAt, bnd, slD, List.getElem?_cons_zero, List.getElem?_cons_succ, dR.eq_20]) (e := 78) (by simp -implicitDefEqProofs (disch := first | assumption | (simp only [wnA]; done) | (simp only [wnA]; omega) | omega | fail) [Mem.cell, Mem.row, wmA]; rfl) (by simp) (by simp [wkA, retV, stabOk, dC, ev, fillD, pickCells, putAt, bnd, slD, List.getElem?_cons_zero, List.getElem?_cons_succ, dR.eq_20]) (by simp [wkA, retV, stabOk, dC, ev, fillD, pickCells, putAt, bnd, slD, List.getElem?_cons_zero, List.getElem?_cons_succ, dR.eq_20, oneC]) ?_
              simp -implicitDefEqProofs (disch := first | assumption | (simp only [wnA]; done) | (simp only [wnA]; omega) | omega | fail) [wkA, retV, stabOk, dC, ev, fillD, pickCells, putAt, bnd, slD, List.getElem?_cons_zero, List.getElem?_cons_succ, dR.eq_20, Mem.cell, Mem.row, wmA, t4]
              rw [SK_bsl (cs := cellP (t, a)) (by simp [wkA, retV, stabOk, dC, ev, fillD, pickCells, putAt, bnd, slD, List.getElem?_cons_zero, List.getElem?_cons_succ, dR.eq_20, cellP, Tk.cells]) (by simp [cellP, Tk.cells, oneC])]
              have h61 : SlO m1 78 4 ob (out.flatMap cellP) out.length := h6.keep (by have := o1.1; omega) fun i hi => o1.2 i (by subst hi; exact h6.lt)
              have hne : ob ≠ some m1.next := fun e => by subst e; have := h61.lt; omega
              have hM := fun E1 E2 E3 => (((h61.push E1).set hne E2).set hne E3)
              have oM := fun E1 E2 E3 => ((((h2.trans o1).push E1).set (show b.next ≤ m1.next by have := h2.1; have := o1.1; omega) E2).set (show b.next ≤ m1.next by have := h2.1; have := o1.1; omega) E3)
              have nM : ∀ E1 E2 E3, (((m1.push E1).set m1.next E2).set m1.next E3).next = m1.next + 1 := fun _ _ _ => rfl
              have w2 : IntKind.i64.wrap ((a : Int) + (n : Int)) = ((a + n : Nat) : Int) := by rw [w64 (by omega)]; omega
              simp -implicitDefEqProofs (disch := first | assumption | (simp only [wnA]; done) | (simp only [wnA]; omega) | omega | fail) [wkA, retV, stabOk, dC, ev, fillD, pickCells, putAt, bnd, slD, List.getElem?_cons_zero, List.getElem?_cons_succ, dR.eq_20, Mem.cell, Mem.row, wmA, t4]
              refine SK_ap (ob := ob) (cs := out.flatMap cellP) (n := out.length) ((hM _ _ _).push _) (by simp [wkA, retV, stabOk, dC, ev, fillD, pickCells, putAt, bnd, slD, List.getElem?_cons_zero, List.getElem?_cons_succ, dR.eq_20, t4]) (ys := cellP (t, a)) (by simp -implicitDefEqProofs (disch := first | assumption | (simp only [wnA]; done) | (simp only [wnA]; omega) | omega | fail) [wkA, retV, stabOk, dC, ev, fillD, pickCells, putAt, bnd, slD, List.getElem?_cons_zero, List.getElem?_cons_succ, dR.eq_20, elemsV, Mem.cell, Mem.row, wmA, cellP, Tk.cells]) (k := 1) (by simp [wkA, retV, stabOk, dC, ev, fillD, pickCells, putAt, bnd, slD, List.getElem?_cons_zero, List.getElem?_cons_succ, dR.eq_20]) (by simp) (by simp [oneC, cellP, Tk.cells]) (by omega) (by simp only [maxLen]; omega) (by simp [cellP, Tk.cells]) ?_
              simp -implicitDefEqProofs (disch := first | assumption | (simp only [wnA]; done) | (simp only [wnA]; omega) | omega | fail) [wkA, retV, stabOk, dC, ev, fillD, pickCells, putAt, bnd, slD, List.getElem?_cons_zero, List.getElem?_cons_succ, dR.eq_20, Mem.cell, Mem.row, wmA, w2, t5]
              refine hg (k - n) _ _ (by omega) ?_
              refine ⟨a + n, out ++ [(t, a)], some (m1.next + 1 + 1), by omega, ((((oM _ _ _).push _).kill h7).push _), by simp [t0], by simp, by simp, ?_, ?_, by simp; omega, ?_⟩
              · have e1 : (out ++ [(t, a)]).flatMap cellP = out.flatMap cellP ++ cellP (t, a) := by simp
                have e2 : (out ++ [(t, a)]).length = out.length + 1 := by simp
                rw [e1, e2]
                exact SlO.new (by rw [List.length_append, hl, cellP_len]; omega)
              · intro i hi
                have := h2.1; have := o1.1
                simp at hi; omega
              · rw [hc, cutL_some hnb h35 hn, preC_pre, ← hd, List.drop_drop]
/-- A text's tokens, or where it has none. -/
theorem c_tCut {w0 : World} {m : Mem} {S : ByteArray} {Q : Value → Mem → Prop} (hp : Part L0 m) (ht : Ten w0) (hE : ErrV w0)
    (hb : 4096 < S.size → ∀ m', Old m m' → Q (.tuple ⟨[.slice none 0 0, faultV 7 0]⟩) m')
    (he : S.size ≤ 4096 → ∀ m' a, Old m m' → cutL 0 S.data.toList = .inl a → Q (.tuple ⟨[.slice none 0 0, faultV 1 a]⟩) m')
    (hq : S.size ≤ 4096 → ∀ m' i us, Old m m' → SlO m' 78 4 (some i) (us.flatMap cellP) us.length → m.next ≤ i → us.length ≤ S.size + 1 → cutL 0 S.data.toList = .inr us → Q (.tuple ⟨[slV (some i) us.length 4, .nilIface]⟩) m') :
    AbC Tryd.prog w0 29 [.string S] m Q := by
  refine AbC_fn ok29 (by simp) ?_
  by_cases hs : 4096 < S.size
  · have his : (4096 : Int) < (S.size : Int) := by omega
    simp -implicitDefEqProofs (disch := first | assumption | (simp only [wnA]; done) | (simp only [wnA]; omega) | omega | fail) [rc29, ro29, wkA, retV, stabOk, dC, ev, fillD, pickCells, putAt, bnd, slD, List.getElem?_cons_zero, List.getElem?_cons_succ, dR.eq_20, Mem.cell, Mem.row, wmA]
    refine JumpW_of (fun _ _ _ _ => False) (fun J hJ => ?_) (fun _ _ _ _ h => h.elim) (fun _ _ _ _ h => h.elim)
    simp -implicitDefEqProofs (disch := first | assumption | (simp only [wnA]; done) | (simp only [wnA]; omega) | omega | fail) [wkA, retV, stabOk, dC, ev, fillD, pickCells, putAt, bnd, slD, List.getElem?_cons_zero, List.getElem?_cons_succ, dR.eq_20, Mem.cell, Mem.row, wmA, gtT his]
    refine c_Wrap (no := 7) (a := 0) ?_
    simp -implicitDefEqProofs (disch := first | assumption | (simp only [wnA]; done) | (simp only [wnA]; omega) | omega | fail) [wkA, retV, stabOk, dC, ev, fillD, pickCells, putAt, bnd, slD, List.getElem?_cons_zero, List.getElem?_cons_succ, dR.eq_20, Mem.cell, Mem.row, wmA]
    exact hb hs m (Old.refl m)
  · have hs' : S.size ≤ 4096 := by omega
    have his : (S.size : Int) ≤ 4096 := by omega
    have r0 : ∀ (ts' : Fr) m' (a : Nat), Old m m' → ts' 2 = .slice none 0 0 → ts' 3 = faultV 1 a → cutL 0 S.data.toList = .inl a → bodyA ro29 Q .ret ts' m' := fun ts' m' a o e2 e3 hn => by
      simp -implicitDefEqProofs (disch := first | assumption | (simp only [wnA]; done) | (simp only [wnA]; omega) | omega | fail) [ro29, wkA, retV, stabOk, dC, ev, fillD, pickCells, putAt, bnd, slD, List.getElem?_cons_zero, List.getElem?_cons_succ, dR.eq_20, Mem.cell, Mem.row, wmA, e2, e3]
      exact he hs' m' a o hn
    have r1 : ∀ (ts' : Fr) m' i us, Old m m' → ts' 2 = slV (some i) us.length 4 → ts' 3 = .nilIface → SlO m' 78 4 (some i) (us.flatMap cellP) us.length → m.next ≤ i → us.length ≤ S.size + 1 → cutL 0 S.data.toList = .inr us → bodyA ro29 Q .ret ts' m' := fun ts' m' i us o e2 e3 h1 h2 h3 hn => by
      simp -implicitDefEqProofs (disch := first | assumption | (simp only [wnA]; done) | (simp only [wnA]; omega) | omega | fail) [ro29, wkA, retV, stabOk, dC, ev, fillD, pickCells, putAt, bnd, slD, List.getElem?_cons_zero, List.getElem?_cons_succ, dR.eq_20, Mem.cell, Mem.row, wmA, e2, e3]
      exact hq hs' m' i us o h1 h2 h3 hn
    simp only [ro29] at r0 r1
    simp -implicitDefEqProofs (disch := first | assumption | (simp only [wnA]; done) | (simp only [wnA]; omega) | omega | fail) [rc29, ro29, wkA, retV, stabOk, dC, ev, fillD, pickCells, putAt, bnd, slD, List.getElem?_cons_zero, List.getElem?_cons_succ, dR.eq_20, Mem.cell, Mem.row, wmA]
    refine JumpW_of (fun x k ts m' => CS S m k ts m') (fun J hJ => ?_) (fun k ts m' J hst hJ => ?_) (fun k ts m' J hst hJ => ?_)
    · simp -implicitDefEqProofs (disch := first | assumption | (simp only [wnA]; done) | (simp only [wnA]; omega) | omega | fail) [wkA, retV, stabOk, dC, ev, fillD, pickCells, putAt, bnd, slD, List.getElem?_cons_zero, List.getElem?_cons_succ, dR.eq_20, Mem.cell, Mem.row, wmA, gtF his, rc29_7]
      refine w_cut hp ht hE hs' (k := S.size) ⟨0, [], none, by omega, Old.refl m, by simp [frA_at], by simp [slV], by simp, ⟨rfl, rfl⟩, (fun i hi => by cases hi), Nat.le_refl _, by rw [preC_nil]; rfl⟩ (fun k' ts' m' _ hst => ?_) (fun ts' m' a o e2 e3 hn => ?_) fun ts' m' i us o e2 e3 h1 h2 h3 hn => ?_
      · simp -implicitDefEqProofs (disch := first | assumption | (simp only [wnA]; done) | (simp only [wnA]; omega) | omega | fail) [wkA, retV, stabOk, dC, ev, fillD, pickCells, putAt, bnd, slD, List.getElem?_cons_zero, List.getElem?_cons_succ, dR.eq_20]
        exact .inl (hJ false k' ts' m' hst)
      · simp -implicitDefEqProofs (disch := first | assumption | (simp only [wnA]; done) | (simp only [wnA]; omega) | omega | fail) [wkA, retV, stabOk, dC, ev, fillD, pickCells, putAt, bnd, slD, List.getElem?_cons_zero, List.getElem?_cons_succ, dR.eq_20] at r0 ⊢
        exact r0 ts' m' a o e2 e3 hn
      · simp -implicitDefEqProofs (disch := first | assumption | (simp only [wnA]; done) | (simp only [wnA]; omega) | omega | fail) [wkA, retV, stabOk, dC, ev, fillD, pickCells, putAt, bnd, slD, List.getElem?_cons_zero, List.getElem?_cons_succ, dR.eq_20] at r1 ⊢
        exact r1 ts' m' i us o e2 e3 h1 h2 h3 hn
    · simp -implicitDefEqProofs (disch := first | assumption | (simp only [wnA]; done) | (simp only [wnA]; omega) | omega | fail) [wkA, retV, stabOk, dC, ev, fillD, pickCells, putAt, bnd, slD, List.getElem?_cons_zero, List.getElem?_cons_succ, dR.eq_20, Mem.cell, Mem.row, wmA, rc29_8]
      refine w_cut hp ht hE hs' hst (fun k' ts' m' hk hst => ?_) (fun ts' m' a o e2 e3 hn => ?_) fun ts' m' i us o e2 e3 h1 h2 h3 hn => ?_
      · simp -implicitDefEqProofs (disch := first | assumption | (simp only [wnA]; done) | (simp only [wnA]; omega) | omega | fail) [wkA, retV, stabOk, dC, ev, fillD, pickCells, putAt, bnd, slD, List.getElem?_cons_zero, List.getElem?_cons_succ, dR.eq_20]
        exact .inl (hJ false k' ts' m' hk hst)
      · simp -implicitDefEqProofs (disch := first | assumption | (simp only [wnA]; done) | (simp only [wnA]; omega) | omega | fail) [wkA, retV, stabOk, dC, ev, fillD, pickCells, putAt, bnd, slD, List.getElem?_cons_zero, List.getElem?_cons_succ, dR.eq_20] at r0 ⊢
        exact r0 ts' m' a o e2 e3 hn
      · simp -implicitDefEqProofs (disch := first | assumption | (simp only [wnA]; done) | (simp only [wnA]; omega) | omega | fail) [wkA, retV, stabOk, dC, ev, fillD, pickCells, putAt, bnd, slD, List.getElem?_cons_zero, List.getElem?_cons_succ, dR.eq_20] at r1 ⊢
        exact r1 ts' m' i us o e2 e3 h1 h2 h3 hn
    · simp -implicitDefEqProofs (disch := first | assumption | (simp only [wnA]; done) | (simp only [wnA]; omega) | omega | fail) [wkA, retV, stabOk, dC, ev, fillD, pickCells, putAt, bnd, slD, List.getElem?_cons_zero, List.getElem?_cons_succ, dR.eq_20, Mem.cell, Mem.row, wmA, rc29_8]
      refine w_cut hp ht hE hs' hst (fun k' ts' m' hk hst => ?_) (fun ts' m' a o e2 e3 hn => ?_) fun ts' m' i us o e2 e3 h1 h2 h3 hn => ?_
      · simp -implicitDefEqProofs (disch := first | assumption | (simp only [wnA]; done) | (simp only [wnA]; omega) | omega | fail) [wkA, retV, stabOk, dC, ev, fillD, pickCells, putAt, bnd, slD, List.getElem?_cons_zero, List.getElem?_cons_succ, dR.eq_20]
        exact .inl (hJ false k' ts' m' hk hst)
      · simp -implicitDefEqProofs (disch := first | assumption | (simp only [wnA]; done) | (simp only [wnA]; omega) | omega | fail) [wkA, retV, stabOk, dC, ev, fillD, pickCells, putAt, bnd, slD, List.getElem?_cons_zero, List.getElem?_cons_succ, dR.eq_20] at r0 ⊢
        exact r0 ts' m' a o e2 e3 hn
      · simp -implicitDefEqProofs (disch := first | assumption | (simp only [wnA]; done) | (simp only [wnA]; omega) | omega | fail) [wkA, retV, stabOk, dC, ev, fillD, pickCells, putAt, bnd, slD, List.getElem?_cons_zero, List.getElem?_cons_succ, dR.eq_20] at r1 ⊢
        exact r1 ts' m' i us o e2 e3 h1 h2 h3 hn
end Go.Proofs.YtgfkjldohilmkaaDoor.Ab
