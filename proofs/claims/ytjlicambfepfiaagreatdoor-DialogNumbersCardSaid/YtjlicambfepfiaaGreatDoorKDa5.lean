/- Parts of a proof, put together: What a text's tokens are (plain law; no program). -/
import Derived.Test.YtjlicambfepfiaaGreatDoorKDa4
set_option linter.unusedVariables false
set_option linter.unusedSimpArgs false
namespace Go.Proofs.YtjlicambfepfiaaGreatDoor.Ab
open Go Go.RowKit

def isLet (c : UInt8) : Bool := decide (97 ≤ c.toNat) && decide (c.toNat ≤ 122)
def isDig (c : UInt8) : Bool := decide (48 ≤ c.toNat) && decide (c.toNat ≤ 57)
def isHx (c : UInt8) : Bool := decide (97 ≤ c.toNat) && decide (c.toNat ≤ 102)
/-- May a byte stand in a word: at its beginning, behind it? -/
def wq (b : Bool) (c : UInt8) : Bool := isLet c || (b && (isDig c || c.toNat == 45))
def wordN : Bool → List UInt8 → Nat
  | _, [] => 0
  | b, c :: r => if wq b c then wordN true r + 1 else 0
def inB (B : Nat) (c : UInt8) : Bool := isDig c || (B == 16 && isHx c)
def runN (p : UInt8 → Bool) : List UInt8 → Nat
  | [] => 0
  | c :: r => if p c then runN p r + 1 else 0
def hexH : List UInt8 → Bool
  | a :: b :: _ => a.toNat == 48 && b.toNat == 120
  | _ => false
def nB (l : List UInt8) : Nat := if hexH l then 16 else 10
def nF (l : List UInt8) : Nat := if hexH l then 2 else 0
def nN (l : List UInt8) : Nat := nF l + runN (inB (nB l)) (l.drop (nF l))
def nDs (l : List UInt8) : List UInt8 := (l.take (nN l)).drop (nF l)
def numV (l : List UInt8) : Option Nat := match puL (nB l) 4294967295 0 (nDs l) with
  | some v => if digs (nB l) v = nDs l ∧ wordN false (l.drop (nN l)) = 0 then some v else none
  | none => none
def escD (c : UInt8) : Option UInt8 := if c.toNat = 92 then some 92 else if c.toNat = 34 then some 34 else if c.toNat = 114 then some 13 else if c.toNat = 110 then some 10 else none
/-- What stands in quotes, behind the first one: how long it is, and its bytes. -/
def qd : List UInt8 → Option (Nat × List UInt8)
  | [] => none
  | [c] => if c.toNat = 34 then some (1, []) else none
  | c :: e :: r => if c.toNat = 34 then some (1, []) else if c.toNat < 32 ∨ 126 < c.toNat then none
    else if c.toNat = 92 then (match escD e with
      | some x => (qd r).map fun p => (p.1 + 2, x :: p.2)
      | none => none)
    else (qd (e :: r)).map fun p => (p.1 + 1, c :: p.2)
structure Tk where
  kd : Int
  tx : List UInt8
  vl : Int
def Tk.cells (t : Tk) (a : Nat) : List Value := [.int .i64 t.kd, .string ⟨⟨t.tx⟩⟩, .int .i64 t.vl, .int .i64 (a : Int)]
def isSg (c : UInt8) : Bool := c.toNat == 58 || c.toNat == 59 || c.toNat == 44 || c.toNat == 123 || c.toNat == 125
def isBl (c : UInt8) : Bool := c.toNat == 32 || c.toNat == 9 || c.toNat == 10
def oneL : List UInt8 → Option (Tk × Nat)
  | [] => none
  | c :: r => if isLet c then some (⟨1, (c :: r).take (wordN false (c :: r)), 0⟩, wordN false (c :: r))
    else if isDig c then (numV (c :: r)).map fun v => ((⟨2, (c :: r).take (nN (c :: r)), ((v : Nat) : Int)⟩ : Tk), nN (c :: r))
    else if c.toNat = 34 then (qd r).map fun p => (⟨3, p.2, 0⟩, p.1 + 1)
    else if isSg c then some (⟨4, [c], 0⟩, 1) else none
def no10 (c : UInt8) : Bool := c.toNat != 10
def endT : Tk := ⟨0, [], 0⟩
abbrev Cuts := Nat ⊕ List (Tk × Nat)
def preC (ts : List (Tk × Nat)) : Cuts → Cuts
  | .inl e => .inl e
  | .inr us => .inr (ts ++ us)
def cutF : Nat → Nat → List UInt8 → Cuts
  | 0, a, _ => .inr [(endT, a)]
  | _ + 1, a, [] => .inr [(endT, a)]
  | k + 1, a, c :: r => if isBl c then cutF k (a + 1) r
    else if c.toNat = 35 then cutF k (a + runN no10 (c :: r)) ((c :: r).drop (runN no10 (c :: r)))
    else match oneL (c :: r) with
      | none => .inl a
      | some (t, n) => preC [(t, a)] (cutF k (a + n) ((c :: r).drop n))
def cutL (a : Nat) (l : List UInt8) : Cuts := cutF l.length a l

theorem wordN_le : ∀ (b : Bool) (l : List UInt8), wordN b l ≤ l.length
  | _, [] => Nat.le_refl _
  | b, c :: r => by
    simp only [wordN]
    split
    · have := wordN_le true r; simp; omega
    · simp
theorem runN_le (p : UInt8 → Bool) : ∀ (l : List UInt8), runN p l ≤ l.length
  | [] => Nat.le_refl _
  | c :: r => by
    simp only [runN]
    split
    · have := runN_le p r; simp; omega
    · simp
theorem hexH_len {l : List UInt8} (h : hexH l = true) : 2 ≤ l.length := by
  unfold hexH at h
  split at h
  · simp
  · cases h
theorem nF_le (l : List UInt8) : nF l ≤ l.length := by
  unfold nF
  split
  · exact hexH_len ‹_›
  · simp
theorem nN_le (l : List UInt8) : nN l ≤ l.length := by
  have h1 := runN_le (inB (nB l)) (l.drop (nF l))
  have h2 := nF_le l
  rw [List.length_drop] at h1
  unfold nN; omega
theorem nN_pos {c : UInt8} {r : List UInt8} (h : isDig c = true) : 1 ≤ nN (c :: r) := by
  unfold nN nF
  split
  · omega
  · simp [runN, inB, h]
theorem qd_len : ∀ {l : List UInt8} {n : Nat} {t : List UInt8}, qd l = some (n, t) → 1 ≤ n ∧ n ≤ l.length
  | [], n, t, h => by simp [qd] at h
  | [c], n, t, h => by
    simp only [qd] at h
    split at h
    · simp at h; simp; omega
    · cases h
  | c :: e :: r, n, t, h => by
    simp only [qd] at h
    split at h
    · simp at h; simp; omega
    · split at h
      · cases h
      · split at h
        · split at h
          · rename_i x hx
            cases hq : qd r with
            | none => simp [hq] at h
            | some p =>
              obtain ⟨a, b⟩ := p
              simp [hq] at h
              have := qd_len hq
              simp; omega
          · cases h
        · cases hq : qd (e :: r) with
          | none => simp [hq] at h
          | some p =>
            obtain ⟨a, b⟩ := p
            simp [hq] at h
            have := qd_len hq
            simp at this ⊢; omega
theorem oneL_len {l : List UInt8} {t : Tk} {n : Nat} (h : oneL l = some (t, n)) : 1 ≤ n ∧ n ≤ l.length := by
  cases l with
  | nil => simp [oneL] at h
  | cons c r =>
    simp only [oneL] at h
    split at h
    · rename_i hc
      simp at h
      have h1 := wordN_le false (c :: r)
      have h2 : 1 ≤ wordN false (c :: r) := by simp [wordN, wq, hc]
      omega
    · split at h
      · rename_i hc
        cases hv : numV (c :: r) with
        | none => simp [hv] at h
        | some v =>
          simp [hv] at h
          have h1 := nN_le (c :: r)
          have h2 := nN_pos (r := r) hc
          omega
      · split at h
        · cases hq : qd r with
          | none => simp [hq] at h
          | some p =>
            obtain ⟨a, b⟩ := p
            simp [hq] at h
            have := qd_len hq
            simp; omega
        · split at h
          · simp at h; simp; omega
          · cases h
theorem run_cm {c : UInt8} {r : List UInt8} (h : c.toNat = 35) : 1 ≤ runN no10 (c :: r) := by
  simp [runN, no10, h]
theorem cutF_fuel : ∀ (k k' a : Nat) (l : List UInt8), l.length ≤ k → l.length ≤ k' → cutF k a l = cutF k' a l
  | 0, k', a, [], _, _ => by cases k' <;> rfl
  | 0, _, _, _ :: _, h, _ => by simp at h
  | k + 1, 0, a, [], _, _ => rfl
  | _, 0, _, _ :: _, _, h => by simp at h
  | k + 1, k' + 1, a, [], _, _ => rfl
  | k + 1, k' + 1, a, c :: r, h, h' => by
    simp at h h'
    simp only [cutF]
    split
    · exact cutF_fuel k k' _ r h h'
    · split
      · have := run_cm (r := r) ‹_›
        exact cutF_fuel k k' _ _ (by rw [List.length_drop]; simp; omega) (by rw [List.length_drop]; simp; omega)
      · split
        · rfl
        · rename_i t n ho
          have := oneL_len ho
          rw [cutF_fuel k k' _ _ (by rw [List.length_drop]; simp; omega) (by rw [List.length_drop]; simp; omega)]
theorem cutL_nil (a : Nat) : cutL a [] = .inr [(endT, a)] := rfl
theorem cutL_bl {c : UInt8} {a : Nat} {r : List UInt8} (h : isBl c = true) : cutL a (c :: r) = cutL (a + 1) r := by
  show cutF (r.length + 1) a (c :: r) = _
  simp only [cutF, h, if_true]
  rfl
theorem cutL_cm {c : UInt8} {a : Nat} {r : List UInt8} (h : isBl c = false) (h2 : c.toNat = 35) : cutL a (c :: r) = cutL (a + runN no10 (c :: r)) ((c :: r).drop (runN no10 (c :: r))) := by
  show cutF (r.length + 1) a (c :: r) = _
  have := run_cm (r := r) h2
  simp only [cutF, h, Bool.false_eq_true, if_false, h2, if_true]
  exact cutF_fuel _ _ _ _ (by rw [List.length_drop]; simp; omega) (by rw [List.length_drop]; exact Nat.le_refl _)
theorem cutL_none {c : UInt8} {a : Nat} {r : List UInt8} (h : isBl c = false) (h2 : c.toNat ≠ 35) (h3 : oneL (c :: r) = none) : cutL a (c :: r) = .inl a := by
  show cutF (r.length + 1) a (c :: r) = _
  simp only [cutF, h, Bool.false_eq_true, if_false, h2, h3]
theorem cutL_some {c : UInt8} {a n : Nat} {t : Tk} {r : List UInt8} (h : isBl c = false) (h2 : c.toNat ≠ 35) (h3 : oneL (c :: r) = some (t, n)) : cutL a (c :: r) = preC [(t, a)] (cutL (a + n) ((c :: r).drop n)) := by
  show cutF (r.length + 1) a (c :: r) = _
  have := oneL_len h3
  simp only [cutF, h, Bool.false_eq_true, if_false, h2, h3]
  unfold cutL
  rw [cutF_fuel r.length ((c :: r).drop n).length _ _ (by rw [List.length_drop]; simp at *; omega) (Nat.le_refl _)]
theorem preC_pre (a b : List (Tk × Nat)) (c : Cuts) : preC a (preC b c) = preC (a ++ b) c := by
  cases c <;> simp [preC]
theorem preC_nil (c : Cuts) : preC [] c = c := by cases c <;> rfl
end Go.Proofs.YtjlicambfepfiaaGreatDoor.Ab
/- The tokens of a text: letters, digits, words, signs. -/
set_option linter.unusedVariables false
set_option linter.unusedSimpArgs false
namespace Go.Proofs.YtjlicambfepfiaaGreatDoor.Ab
open Go Go.RowKit
set_option maxHeartbeats 1000000
set_option maxRecDepth 100000

theorem allB {p : UInt8 → Bool} (h : ∀ n : Fin 256, p (UInt8.ofNat n.val) = true) (c : UInt8) : p c = true := by
  have := h ⟨c.toNat, c.toNat_lt⟩
  simpa using this
theorem c_letter {w0 : World} {m : Mem} {c : UInt8} {Q : Value → Mem → Prop} (hq : Q (.bool (isLet c)) m) : AbC Tryz.prog w0 72 [.int .u8 (c.toNat : Int)] m Q := by
  refine AbC_fn ok72 (by simp) ?_
  have hq' := fun b (h : isLet c = b) => h ▸ hq
  simp only [isLet] at hq'
  by_cases h1 : 97 ≤ c.toNat
  · have i1 : (97 : Int) ≤ (c.toNat : Int) := by omega
    by_cases h2 : c.toNat ≤ 122
    · have i2 : (c.toNat : Int) ≤ 122 := by omega
      simp -implicitDefEqProofs (disch := first | assumption | (simp only [wnA]; done) | (simp only [wnA]; omega) | omega | fail) [rc72, ro72, wkA, retV, stabOk, dC, ev, fillD, pickCells, putAt, bnd, slD, List.getElem?_cons_zero, List.getElem?_cons_succ, dR.eq_20, Mem.cell, Mem.row, wmA, i1, i2]
      exact hq' _ (by simp [h1, h2])
    · have i2 : ¬ (c.toNat : Int) ≤ 122 := by omega
      simp -implicitDefEqProofs (disch := first | assumption | (simp only [wnA]; done) | (simp only [wnA]; omega) | omega | fail) [rc72, ro72, wkA, retV, stabOk, dC, ev, fillD, pickCells, putAt, bnd, slD, List.getElem?_cons_zero, List.getElem?_cons_succ, dR.eq_20, Mem.cell, Mem.row, wmA, i1, i2]
      exact hq' _ (by simp [h1, h2])
  · have i1 : ¬ (97 : Int) ≤ (c.toNat : Int) := by omega
    simp -implicitDefEqProofs (disch := first | assumption | (simp only [wnA]; done) | (simp only [wnA]; omega) | omega | fail) [rc72, ro72, wkA, retV, stabOk, dC, ev, fillD, pickCells, putAt, bnd, slD, List.getElem?_cons_zero, List.getElem?_cons_succ, dR.eq_20, Mem.cell, Mem.row, wmA, i1]
    exact hq' _ (by simp [h1])
theorem c_digit {w0 : World} {m : Mem} {c : UInt8} {Q : Value → Mem → Prop} (hq : Q (.bool (isDig c)) m) : AbC Tryz.prog w0 74 [.int .u8 (c.toNat : Int)] m Q := by
  refine AbC_fn ok74 (by simp) ?_
  have hq' := fun b (h : isDig c = b) => h ▸ hq
  simp only [isDig] at hq'
  by_cases h1 : 48 ≤ c.toNat
  · have i1 : (48 : Int) ≤ (c.toNat : Int) := by omega
    by_cases h2 : c.toNat ≤ 57
    · have i2 : (c.toNat : Int) ≤ 57 := by omega
      simp -implicitDefEqProofs (disch := first | assumption | (simp only [wnA]; done) | (simp only [wnA]; omega) | omega | fail) [rc74, ro74, wkA, retV, stabOk, dC, ev, fillD, pickCells, putAt, bnd, slD, List.getElem?_cons_zero, List.getElem?_cons_succ, dR.eq_20, Mem.cell, Mem.row, wmA, i1, i2]
      exact hq' _ (by simp [h1, h2])
    · have i2 : ¬ (c.toNat : Int) ≤ 57 := by omega
      simp -implicitDefEqProofs (disch := first | assumption | (simp only [wnA]; done) | (simp only [wnA]; omega) | omega | fail) [rc74, ro74, wkA, retV, stabOk, dC, ev, fillD, pickCells, putAt, bnd, slD, List.getElem?_cons_zero, List.getElem?_cons_succ, dR.eq_20, Mem.cell, Mem.row, wmA, i1, i2]
      exact hq' _ (by simp [h1, h2])
  · have i1 : ¬ (48 : Int) ≤ (c.toNat : Int) := by omega
    simp -implicitDefEqProofs (disch := first | assumption | (simp only [wnA]; done) | (simp only [wnA]; omega) | omega | fail) [rc74, ro74, wkA, retV, stabOk, dC, ev, fillD, pickCells, putAt, bnd, slD, List.getElem?_cons_zero, List.getElem?_cons_succ, dR.eq_20, Mem.cell, Mem.row, wmA, i1]
    exact hq' _ (by simp [h1])

theorem at_S {S : ByteArray} {j : Nat} {c : UInt8} {r : List UInt8} (h : S.data.toList.drop j = c :: r) : j < S.size ∧ S[j]? = some c ∧ S.data.toList.drop (j + 1) = r := by
  have hl : S.data.toList.length = S.size := by simp
  have h1 := congrArg List.length h
  rw [List.length_drop] at h1
  simp only [List.length_cons] at h1
  have hlt : j < S.data.toList.length := by omega
  refine ⟨by omega, ?_, ?_⟩
  · have e : S = ⟨⟨S.data.toList⟩⟩ := rfl
    rw [e, ba_idx]
    have := List.drop_eq_getElem_cons hlt
    rw [h] at this
    simp only [List.cons.injEq] at this
    rw [List.getElem?_eq_getElem hlt, ← this.1]
  · have := List.drop_eq_getElem_cons hlt
    rw [h] at this
    simp only [List.cons.injEq] at this
    exact this.2.symm
theorem drop_nil {S : ByteArray} {j : Nat} (h : S.data.toList.drop j = []) (hj : j ≤ S.size) : j = S.size := by
  have hl : S.data.toList.length = S.size := by simp
  have h1 := congrArg List.length h
  rw [List.length_drop] at h1
  simp only [List.length_nil] at h1
  omega

theorem c_word {w0 : World} {m : Mem} {S : ByteArray} {Q : Value → Mem → Prop} (hs : S.size ≤ 140737488355328) (hq : Q (.int .i64 (wordN false S.data.toList : Nat)) m) : AbC Tryz.prog w0 73 [.string S] m Q := by
  refine AbC_fn ok73 (by simp) ?_
  simp -implicitDefEqProofs (disch := first | assumption | (simp only [wnA]; done) | (simp only [wnA]; omega) | omega | fail) [rc73, ro73, wkA, retV, stabOk, dC, ev, fillD, pickCells, putAt, bnd, slD, List.getElem?_cons_zero, List.getElem?_cons_succ, dR.eq_20, Mem.cell, Mem.row, wmA]
  refine LoopW_of (fun k ts m' => ∃ j, j + k = S.size ∧ m' = m ∧ ts 0 = .string S ∧ ts 3 = .int .i64 (j : Nat) ∧ wordN false S.data.toList = j + wordN (decide (0 < j)) (S.data.toList.drop j)) S.size ?_ ?_
  · exact ⟨0, by omega, rfl, by simp [frA_at], by simp, by simp⟩
  · rintro k ts m2 K ⟨j, hj, rfl, t0, t3, hw⟩ hK
    have hend : wordN (decide (0 < j)) (S.data.toList.drop j) = 0 → Q (.int .i64 (j : Nat)) m2 := fun h => by
      rw [h, Nat.add_zero] at hw
      rw [hw] at hq; exact hq
    simp -implicitDefEqProofs (disch := first | assumption | (simp only [wnA]; done) | (simp only [wnA]; omega) | omega | fail) [rc73_1, wkA, retV, stabOk, dC, ev, fillD, pickCells, putAt, bnd, slD, List.getElem?_cons_zero, List.getElem?_cons_succ, dR.eq_20, Mem.cell, Mem.row, wmA, t0, t3]
    rcases hd : S.data.toList.drop j with _ | ⟨c, r⟩
    · have hjj := drop_nil hd (by omega)
      have hn : ¬ j < S.size := by omega
      simp -implicitDefEqProofs (disch := first | assumption | (simp only [wnA]; done) | (simp only [wnA]; omega) | omega | fail) [wkA, retV, stabOk, dC, ev, fillD, pickCells, putAt, bnd, slD, List.getElem?_cons_zero, List.getElem?_cons_succ, dR.eq_20, Mem.cell, Mem.row, wmA, t0, t3, hn, rc73_2]
      exact hend (by rw [hd]; rfl)
    · obtain ⟨hlt, g1, hr⟩ := at_S hd
      rw [hd] at hw hend
      have next : wq (decide (0 < j)) c = true → ∀ ts' : Fr, ts' 0 = ts 0 → ts' 3 = .int .i64 ((j + 1 : Nat) : Int) → K ts' m2 := fun h ts' e0 e3 =>
        hK (k - 1) ts' m2 (by omega) ⟨j + 1, by omega, rfl, by rw [e0, t0], e3, by
          rw [hw, hr]
          simp only [wordN, h, if_true, Nat.zero_lt_succ, decide_true]
          omega⟩
      have stop : wq (decide (0 < j)) c = false → Q (.int .i64 (j : Nat)) m2 := fun h => hend (by simp [wordN, h])
      simp -implicitDefEqProofs (disch := first | assumption | (simp only [wnA]; done) | (simp only [wnA]; omega) | omega | fail) [wkA, retV, stabOk, dC, ev, fillD, pickCells, putAt, bnd, slD, List.getElem?_cons_zero, List.getElem?_cons_succ, dR.eq_20, Mem.cell, Mem.row, wmA, t0, t3, hlt, g1, getOf g1]
      refine c_letter ?_
      have w1 : IntKind.i64.wrap ((j : Int) + 1) = ((j + 1 : Nat) : Int) := by rw [w64 (by omega)]; omega
      cases hle : isLet c with
      | true =>
        simp -implicitDefEqProofs (disch := first | assumption | (simp only [wnA]; done) | (simp only [wnA]; omega) | omega | fail) [wkA, retV, stabOk, dC, ev, fillD, pickCells, putAt, bnd, slD, List.getElem?_cons_zero, List.getElem?_cons_succ, dR.eq_20, Mem.cell, Mem.row, wmA, t3, rc73_0, w1]
        exact next (by simp [wq, hle]) _ (by simp) (by simp)
      | false =>
        by_cases hj0 : 0 < j
        · have hj0' : (0 : Int) < (j : Int) := by omega
          simp -implicitDefEqProofs (disch := first | assumption | (simp only [wnA]; done) | (simp only [wnA]; omega) | omega | fail) [wkA, retV, stabOk, dC, ev, fillD, pickCells, putAt, bnd, slD, List.getElem?_cons_zero, List.getElem?_cons_succ, dR.eq_20, Mem.cell, Mem.row, wmA, t0, t3, hj0, hj0', g1, getOf g1, hlt]
          refine c_digit ?_
          cases hdi : isDig c with
          | true =>
            simp -implicitDefEqProofs (disch := first | assumption | (simp only [wnA]; done) | (simp only [wnA]; omega) | omega | fail) [wkA, retV, stabOk, dC, ev, fillD, pickCells, putAt, bnd, slD, List.getElem?_cons_zero, List.getElem?_cons_succ, dR.eq_20, Mem.cell, Mem.row, wmA, t3, rc73_0, w1]
            exact next (by simp [wq, hle, hdi, hj0]) _ (by simp) (by simp)
          | false =>
            by_cases h45 : c.toNat = 45
            · have i45 : (c.toNat : Int) = 45 := by omega
              simp -implicitDefEqProofs (disch := first | assumption | (simp only [wnA]; done) | (simp only [wnA]; omega) | omega | fail) [wkA, retV, stabOk, dC, ev, fillD, pickCells, putAt, bnd, slD, List.getElem?_cons_zero, List.getElem?_cons_succ, dR.eq_20, Mem.cell, Mem.row, wmA, t0, t3, g1, getOf g1, hlt, i45, rc73_0, w1]
              exact next (by simp [wq, hle, hdi, hj0, h45]) _ (by simp) (by simp)
            · have i45 : ¬ (c.toNat : Int) = 45 := by omega
              simp -implicitDefEqProofs (disch := first | assumption | (simp only [wnA]; done) | (simp only [wnA]; omega) | omega | fail) [wkA, retV, stabOk, dC, ev, fillD, pickCells, putAt, bnd, slD, List.getElem?_cons_zero, List.getElem?_cons_succ, dR.eq_20, Mem.cell, Mem.row, wmA, t0, t3, g1, getOf g1, hlt, beqF i45, rc73_2]
              exact stop (by simp [wq, hle, hdi, h45])
        · have hj0' : ¬ (0 : Int) < (j : Int) := by omega
          simp -implicitDefEqProofs (disch := first | assumption | (simp only [wnA]; done) | (simp only [wnA]; omega) | omega | fail) [wkA, retV, stabOk, dC, ev, fillD, pickCells, putAt, bnd, slD, List.getElem?_cons_zero, List.getElem?_cons_succ, dR.eq_20, Mem.cell, Mem.row, wmA, t0, t3, hj0, hj0', rc73_2]
          exact stop (by simp [wq, hle, hj0])
end Go.Proofs.YtjlicambfepfiaaGreatDoor.Ab
/- The tokens of a text: numbers. -/
set_option linter.unusedVariables false
set_option linter.unusedSimpArgs false
namespace Go.Proofs.YtjlicambfepfiaaGreatDoor.Ab
open Go Go.RowKit
set_option maxHeartbeats 1000000
set_option maxRecDepth 100000

theorem c_iByte {w0 : World} {m : Mem} {s : ByteArray} {c : UInt8} {Q : Value → Mem → Prop} (hq : Q (.int .i64 (Lib.indexByte s.data.toList c)) m) : AbC Tryz.prog w0 77 [.string s, .int .u8 (c.toNat : Int)] m Q := by
  refine AbC_fn ok77 (by simp) ?_
  simp -implicitDefEqProofs (disch := first | assumption | (simp only [wnA]; done) | (simp only [wnA]; omega) | omega | fail) [rc77, ro77, wkA, retV, stabOk, dC, ev, fillD, pickCells, putAt, bnd, slD, List.getElem?_cons_zero, List.getElem?_cons_succ, dR.eq_20, Mem.cell, Mem.row, wmA]
  refine AbC_fn ok92 (by simp) ?_
  simp -implicitDefEqProofs (disch := first | assumption | (simp only [wnA]; done) | (simp only [wnA]; omega) | omega | fail) [rc92, ro92, wkA, retV, stabOk, dC, ev, fillD, pickCells, putAt, bnd, slD, List.getElem?_cons_zero, List.getElem?_cons_succ, dR.eq_20, Mem.cell, Mem.row, wmA]
  refine x_idx xis104 ?_
  have e : ((c.toNat : Int)).toNat.toUInt8 = c := by
    show UInt8.ofNat ((c.toNat : Int)).toNat = c
    rw [Int.toNat_natCast]; simp
  rw [e]
  simp -implicitDefEqProofs (disch := first | assumption | (simp only [wnA]; done) | (simp only [wnA]; omega) | omega | fail) [wkA, retV, stabOk, dC, ev, fillD, pickCells, putAt, bnd, slD, List.getElem?_cons_zero, List.getElem?_cons_succ, dR.eq_20, Mem.cell, Mem.row, wmA]
  exact hq

theorem c_pre {w0 : World} {m : Mem} {s : ByteArray} {Q : Value → Mem → Prop} (hq : Q (.bool (hexH s.data.toList)) m) : AbC Tryz.prog w0 89 [.string s, .string ⟨#[48, 120]⟩] m Q := by
  refine AbC_fn ok89 (by simp) ?_
  simp -implicitDefEqProofs (disch := first | assumption | (simp only [wnA]; done) | (simp only [wnA]; omega) | omega | fail) [rc89, ro89, wkA, retV, stabOk, dC, ev, fillD, pickCells, putAt, bnd, slD, List.getElem?_cons_zero, List.getElem?_cons_succ, dR.eq_20, Mem.cell, Mem.row, wmA]
  refine AbC_fn ok100 (by simp) ?_
  have h2 : (ByteArray.mk #[48, 120]).size = 2 := rfl
  have hl : s.data.toList.length = s.size := by simp
  simp -implicitDefEqProofs (disch := first | assumption | (simp only [wnA]; done) | (simp only [wnA]; omega) | omega | fail) [rc100, ro100, wkA, retV, stabOk, dC, ev, fillD, pickCells, putAt, bnd, slD, List.getElem?_cons_zero, List.getElem?_cons_succ, dR.eq_20, Mem.cell, Mem.row, wmA, h2]
  have hq' := fun b (h : hexH s.data.toList = b) => h ▸ hq
  by_cases h : 2 ≤ s.size
  · have hi : (2 : Int) ≤ (s.size : Int) := by omega
    obtain ⟨a, b, r, hr⟩ : ∃ a b r, s.data.toList = a :: b :: r := by
      match s.data.toList, hl with
      | a :: b :: r, _ => exact ⟨a, b, r, rfl⟩
      | [], e => simp at e; omega
      | [_], e => simp at e; omega
    have hx : s.extract 0 2 = ⟨⟨[a, b]⟩⟩ := by rw [Lib.extract_eq, hr]; rfl
    simp -implicitDefEqProofs (disch := first | assumption | (simp only [wnA]; done) | (simp only [wnA]; omega) | omega | fail) [wkA, retV, stabOk, dC, ev, fillD, pickCells, putAt, bnd, slD, List.getElem?_cons_zero, List.getElem?_cons_succ, dR.eq_20, Mem.cell, Mem.row, wmA, h2, h, hi, hx]
    refine hq' _ ?_
    rw [hr]
    simp only [hexH]
    rw [Bool.eq_iff_iff]
    simp
    constructor
    · rintro ⟨x, y⟩; exact ⟨UInt8.toNat_inj.1 (by rw [x]; rfl), UInt8.toNat_inj.1 (by rw [y]; rfl)⟩
    · rintro ⟨x, y⟩; rw [x, y]; exact ⟨rfl, rfl⟩
  · have hi : ¬ (2 : Int) ≤ (s.size : Int) := by omega
    simp -implicitDefEqProofs (disch := first | assumption | (simp only [wnA]; done) | (simp only [wnA]; omega) | omega | fail) [wkA, retV, stabOk, dC, ev, fillD, pickCells, putAt, bnd, slD, List.getElem?_cons_zero, List.getElem?_cons_succ, dR.eq_20, Mem.cell, Mem.row, wmA, h2, h, hi]
    refine hq' _ ?_
    match hs : s.data.toList, hl with
    | [], _ => rfl
    | [_], _ => rfl
    | a :: b :: r, e => simp at e; omega

def sgS (B : Nat) : ByteArray := if B = 16 then ⟨#[48, 49, 50, 51, 52, 53, 54, 55, 56, 57, 97, 98, 99, 100, 101, 102]⟩ else ⟨#[48, 49, 50, 51, 52, 53, 54, 55, 56, 57]⟩
theorem sg10 (c : UInt8) : decide (0 ≤ Lib.indexByte (sgS 10).data.toList c) = inB 10 c :=
  beq_iff_eq.1 (allB (p := fun c => decide (0 ≤ Lib.indexByte (sgS 10).data.toList c) == inB 10 c) (by decide +kernel) c)
theorem sg16 (c : UInt8) : decide (0 ≤ Lib.indexByte (sgS 16).data.toList c) = inB 16 c :=
  beq_iff_eq.1 (allB (p := fun c => decide (0 ≤ Lib.indexByte (sgS 16).data.toList c) == inB 16 c) (by decide +kernel) c)
theorem sg_in {B : Nat} (h : B = 10 ∨ B = 16) (c : UInt8) : decide (0 ≤ Lib.indexByte (sgS B).data.toList c) = inB B c := by
  rcases h with rfl | rfl
  · exact sg10 c
  · exact sg16 c
theorem puL_le {B M : Nat} : ∀ (l : List UInt8) (n v : Nat), n ≤ M → puL B M n l = some v → v ≤ M
  | [], n, v, h, e => by simp [puL] at e; omega
  | c :: l, n, v, h, e => by
    simp only [puL] at e
    split at e
    · rename_i n' hs
      refine puL_le l n' v ?_ e
      unfold puStep at hs
      split at hs
      · split at hs
        · simp at hs; omega
        · cases hs
      · cases hs
    · cases e
theorem nB_or (l : List UInt8) : nB l = 10 ∨ nB l = 16 := by unfold nB; split <;> simp

theorem w_num3 {w0 : World} {m : Mem} {ts : Fr} {S : ByteArray} {Q : AQ} (hp : Part L0 m) (ht : Ten w0) (hE : ErrV w0) (hs : S.size ≤ 140737488355328)
    (t0 : ts 0 = .string S) (t5 : ts 5 = .int .i64 (nB S.data.toList : Nat)) (t6 : ts 6 = .int .i64 (nF S.data.toList : Nat)) (t8 : ts 8 = .int .i64 (nN S.data.toList : Nat))
    (h0 : ∀ ts' m', Old m m' → ts' 2 = .int .i64 0 → ts' 3 = .int .i64 0 → ts' 4 = .bool false → numV S.data.toList = none → Q .ret ts' m')
    (h1 : ∀ ts' m' v, Old m m' → ts' 2 = .int .i64 (nN S.data.toList : Nat) → ts' 3 = .int .i64 (v : Nat) → ts' 4 = .bool true → numV S.data.toList = some v → Q .ret ts' m') :
    AbW Tryz.prog w0 rc75_3 Q ts m := by
  have hB := nB_or S.data.toList
  have hl : S.data.toList.length = S.size := by simp
  have hfl := nF_le S.data.toList
  have hnl := nN_le S.data.toList
  have hfn : nF S.data.toList ≤ nN S.data.toList := by unfold nN; omega
  have hx : S.extract (nF S.data.toList) (nN S.data.toList) = ⟨⟨nDs S.data.toList⟩⟩ := by
    rw [Lib.extract_eq]
    unfold nDs
    rw [List.drop_take]
  have hx2 : (S.extract (nN S.data.toList) S.size).data.toList = S.data.toList.drop (nN S.data.toList) := by
    rw [Lib.extract_eq]
    show List.take _ _ = _
    exact List.take_of_length_le (by rw [List.length_drop]; omega)
  have hdl : (nDs S.data.toList).length ≤ S.size := by unfold nDs; rw [List.length_drop, List.length_take]; omega
  have hv : numV S.data.toList = match puL (nB S.data.toList) 4294967295 0 (nDs S.data.toList) with
      | some v => if digs (nB S.data.toList) v = nDs S.data.toList ∧ wordN false (S.data.toList.drop (nN S.data.toList)) = 0 then some v else none
      | none => none := rfl
  rw [hv] at h0
  have hv1 : ∀ v, puL (nB S.data.toList) 4294967295 0 (nDs S.data.toList) = some v → digs (nB S.data.toList) v = nDs S.data.toList → wordN false (S.data.toList.drop (nN S.data.toList)) = 0 → numV S.data.toList = some v := fun v a b c => by
    rw [hv, a]; simp [b, c]
  clear hv
  have hxs : (S.extract (nN S.data.toList) S.size).size ≤ 140737488355328 := by simp; omega
  generalize hNN : nN S.data.toList = N at *
  generalize hFF : nF S.data.toList = F at *
  generalize nB S.data.toList = B at *
  generalize nDs S.data.toList = D at *
  have c1 : (F : Int) ≤ (N : Int) := by omega
  have c2 : N ≤ S.size := by omega
  have c3 : (N : Int) ≤ (S.size : Int) := by omega
  simp -implicitDefEqProofs (disch := first | assumption | (simp only [wnA]; done) | (simp only [wnA]; omega) | omega | fail) [rc75_3, wkA, retV, stabOk, dC, ev, fillD, pickCells, putAt, bnd, slD, List.getElem?_cons_zero, List.getElem?_cons_succ, dR.eq_20, Mem.cell, Mem.row, wmA, t0, t5, t6, t8, c1, c2, c3, hfn, hx]
  refine c_ParseUint (B := B) (bits := 32) (M := 4294967295) (s := ⟨⟨D⟩⟩) hE (by omega) (.inl ⟨rfl, rfl⟩) (by show D.length ≤ _; omega) (fun m1 v p o1 hn => ?_) fun m1 v o1 hz hv => ?_
  · simp -implicitDefEqProofs (disch := first | assumption | (simp only [wnA]; done) | (simp only [wnA]; omega) | omega | fail) [wkA, retV, stabOk, dC, ev, fillD, pickCells, putAt, bnd, slD, List.getElem?_cons_zero, List.getElem?_cons_succ, dR.eq_20, Mem.cell, Mem.row, wmA, t0, t5, t6, t8]
    refine h0 _ _ o1 (by simp) (by simp) (by simp) ?_
    rcases hn with hn | hn
    · have hD : D = [] := by
        have : D.length = 0 := hn
        simpa using this
      subst hD
      have hne : ∀ v, ¬ digs B v = [] := fun v e => by have := digs_pos B v; rw [e] at this; simp at this
      split
      · rw [if_neg (fun h => hne _ h.1)]
      · rfl
    · have hn : puL B 4294967295 0 D = none := hn
      rw [hn]
  · have hv : puL B 4294967295 0 D = some v := hv
    have hvM := puL_le D 0 v (by omega) hv
    rw [hv] at h0
    have wv : IntKind.i64.wrap (v : Int) = (v : Int) := w64 (by omega)
    simp -implicitDefEqProofs (disch := first | assumption | (simp only [wnA]; done) | (simp only [wnA]; omega) | omega | fail) [wkA, retV, stabOk, dC, ev, fillD, pickCells, putAt, bnd, slD, List.getElem?_cons_zero, List.getElem?_cons_succ, dR.eq_20, Mem.cell, Mem.row, wmA, t0, t5, t6, t8, c1, c2, c3, hfn, hx]
    refine c_FormatUint (o1.part hp) ht (by omega) (by omega) fun m2 o2 => ?_
    have oo2 := o1.trans o2
    by_cases hd : digs B v = D
    · simp -implicitDefEqProofs (disch := first | assumption | (simp only [wnA]; done) | (simp only [wnA]; omega) | omega | fail) [wkA, retV, stabOk, dC, ev, fillD, pickCells, putAt, bnd, slD, List.getElem?_cons_zero, List.getElem?_cons_succ, dR.eq_20, Mem.cell, Mem.row, wmA, t0, t5, t6, t8, c1, c2, c3, hfn, hx, hd]
      refine c_word hxs ?_
      rw [hx2]
      by_cases hw : wordN false (S.data.toList.drop N) = 0
      · have e0 : ((wordN false (S.data.toList.drop N) : Nat) : Int) = 0 := by omega
        rw [e0]
        simp -implicitDefEqProofs (disch := first | assumption | (simp only [wnA]; done) | (simp only [wnA]; omega) | omega | fail) [wkA, retV, stabOk, dC, ev, fillD, pickCells, putAt, bnd, slD, List.getElem?_cons_zero, List.getElem?_cons_succ, dR.eq_20, Mem.cell, Mem.row, wmA, t8, rc75_2, wv]
        exact h1 _ _ v oo2 (by simp) (by simp) (by simp) (hv1 v hv hd hw)
      · have e0 : (0 : Int) < ((wordN false (S.data.toList.drop N) : Nat) : Int) := by omega
        have e1 : 0 < wordN false (S.data.toList.drop N) := by omega
        simp -implicitDefEqProofs (disch := first | assumption | (simp only [wnA]; done) | (simp only [wnA]; omega) | omega | fail) [wkA, retV, stabOk, dC, ev, fillD, pickCells, putAt, bnd, slD, List.getElem?_cons_zero, List.getElem?_cons_succ, dR.eq_20, Mem.cell, Mem.row, wmA, e0, e1]
        exact h0 _ _ oo2 (by simp) (by simp) (by simp) (by simp [hw])
    · have hd' : (digs B v == D) = false := by simpa using hd
      simp -implicitDefEqProofs (disch := first | assumption | (simp only [wnA]; done) | (simp only [wnA]; omega) | omega | fail) [wkA, retV, stabOk, dC, ev, fillD, pickCells, putAt, bnd, slD, List.getElem?_cons_zero, List.getElem?_cons_succ, dR.eq_20, Mem.cell, Mem.row, wmA, t0, t5, t6, t8, c1, c2, c3, hfn, hx, hd, hd']
      refine h0 _ _ oo2 ?_ ?_ ?_ (by simp [hd])
      · simp
      · simp
      · simp

theorem w_num {w0 : World} {m : Mem} {ts : Fr} {S : ByteArray} {Q : AQ} (hp : Part L0 m) (ht : Ten w0) (hE : ErrV w0) (hs : S.size ≤ 140737488355328)
    (t0 : ts 0 = .string S) (t5 : ts 5 = .int .i64 (nB S.data.toList : Nat)) (t6 : ts 6 = .int .i64 (nF S.data.toList : Nat)) (t7 : ts 7 = .string (sgS (nB S.data.toList)))
    (h0 : ∀ ts' m', Old m m' → ts' 2 = .int .i64 0 → ts' 3 = .int .i64 0 → ts' 4 = .bool false → numV S.data.toList = none → Q .ret ts' m')
    (h1 : ∀ ts' m' v, Old m m' → ts' 2 = .int .i64 (nN S.data.toList : Nat) → ts' 3 = .int .i64 (v : Nat) → ts' 4 = .bool true → numV S.data.toList = some v → Q .ret ts' m') :
    AbW Tryz.prog w0 rc75_4 Q ts m := by
  have hB := nB_or S.data.toList
  have hl : S.data.toList.length = S.size := by simp
  have hfl := nF_le S.data.toList
  have hnl := nN_le S.data.toList
  simp -implicitDefEqProofs (disch := first | assumption | (simp only [wnA]; done) | (simp only [wnA]; omega) | omega | fail) [rc75_4, wkA, retV, stabOk, dC, ev, fillD, pickCells, putAt, bnd, slD, List.getElem?_cons_zero, List.getElem?_cons_succ, dR.eq_20, Mem.cell, Mem.row, wmA, t6]
  refine LoopW_of (fun k ts' m' => ∃ j, j + k = S.size ∧ m' = m ∧ nF S.data.toList ≤ j ∧ ts' 0 = .string S ∧ ts' 5 = .int .i64 (nB S.data.toList : Nat) ∧ ts' 6 = .int .i64 (nF S.data.toList : Nat) ∧ ts' 7 = .string (sgS (nB S.data.toList)) ∧ ts' 8 = .int .i64 (j : Nat) ∧ nN S.data.toList = j + runN (inB (nB S.data.toList)) (S.data.toList.drop j)) (S.size - nF S.data.toList) ?_ ?_
  · exact ⟨nF S.data.toList, by omega, rfl, Nat.le_refl _, by simp [t0], by simp [t5], by simp [t6], by simp [t7], by simp, rfl⟩
  · rintro k ts2 m2 K ⟨j, hj, rfl, hfj, s0, s5, s6, s7, s8, hn'⟩ hK
    have hend : runN (inB (nB S.data.toList)) (S.data.toList.drop j) = 0 → AbW Tryz.prog w0 rc75_3 Q ts2 m2 := fun hz => w_num3 hp ht hE hs s0 s5 s6 (by rw [s8, hn', hz, Nat.add_zero]) h0 h1
    simp -implicitDefEqProofs (disch := first | assumption | (simp only [wnA]; done) | (simp only [wnA]; omega) | omega | fail) [rc75_1, wkA, retV, stabOk, dC, ev, fillD, pickCells, putAt, bnd, slD, List.getElem?_cons_zero, List.getElem?_cons_succ, dR.eq_20, Mem.cell, Mem.row, wmA, s0, s8]
    rcases hd : S.data.toList.drop j with _ | ⟨c, r⟩
    · have hjj := drop_nil hd (by omega)
      have hn : ¬ j < S.size := by omega
      have hend := w_num3 (w0 := w0) (m := m2) (ts := upd (upd (upd (upd (upd (upd (upd (upd (upd (upd (upd (upd ts2 14 (.int .i64 (j : Nat))) 15 (.string S)) 16 (.int .i64 (S.size : Nat))) 17 (.bool false)) 18 (.bool false)) 19 undef) 20 undef) 21 undef) 22 undef) 23 undef) 24 undef) 25 (.bool false)) hp ht hE hs (by simp [s0]) (by simp [s5]) (by simp [s6]) (by rw [hn', hd]; simp [s8, runN]) h0 h1
      simp -implicitDefEqProofs (disch := first | assumption | (simp only [wnA]; done) | (simp only [wnA]; omega) | omega | fail) [wkA, retV, stabOk, dC, ev, fillD, pickCells, putAt, bnd, slD, List.getElem?_cons_zero, List.getElem?_cons_succ, dR.eq_20, Mem.cell, Mem.row, wmA, s0, s8, hn]
      exact hend
    · obtain ⟨hlt, g1, hr⟩ := at_S hd
      simp -implicitDefEqProofs (disch := first | assumption | (simp only [wnA]; done) | (simp only [wnA]; omega) | omega | fail) [wkA, retV, stabOk, dC, ev, fillD, pickCells, putAt, bnd, slD, List.getElem?_cons_zero, List.getElem?_cons_succ, dR.eq_20, Mem.cell, Mem.row, wmA, s0, s7, s8, hlt, g1, getOf g1]
      refine c_iByte ?_
      have hin := sg_in hB c
      have w1 : IntKind.i64.wrap ((j : Int) + 1) = ((j + 1 : Nat) : Int) := by rw [w64 (by omega)]; omega
      rw [hd] at hn' hend
      cases hc : inB (nB S.data.toList) c with
      | true =>
        rw [hc] at hin
        have hin := of_decide_eq_true hin
        simp -implicitDefEqProofs (disch := first | assumption | (simp only [wnA]; done) | (simp only [wnA]; omega) | omega | fail) [wkA, retV, stabOk, dC, ev, fillD, pickCells, putAt, bnd, slD, List.getElem?_cons_zero, List.getElem?_cons_succ, dR.eq_20, Mem.cell, Mem.row, wmA, hin, s8, rc75_0, w1]
        exact hK (k - 1) _ m2 (by omega) ⟨j + 1, by omega, rfl, by omega, by simp [s0], by simp [s5], by simp [s6], by simp [s7], by simp, by rw [hn', hr]; simp only [runN, hc, if_true]; omega⟩
      | false =>
        rw [hc] at hin
        have hin := of_decide_eq_false hin
        have hend := w_num3 (w0 := w0) (m := m2) (ts := upd (upd (upd (upd (upd (upd (upd (upd (upd (upd (upd (upd ts2 14 (.int .i64 (j : Nat))) 15 (.string S)) 16 (.int .i64 (S.size : Nat))) 17 (.bool true)) 18 (.bool true)) 19 (.string (sgS (nB S.data.toList)))) 20 (.string S)) 21 (.int .i64 (j : Nat))) 22 (.int .u8 (c.toNat : Int))) 23 (.int .i64 (Lib.indexByte (sgS (nB S.data.toList)).data.toList c))) 24 (.bool false)) 25 (.bool false)) hp ht hE hs (by simp [s0]) (by simp [s5]) (by simp [s6]) (by rw [hn']; simp [s8, runN, hc]) h0 h1
        simp -implicitDefEqProofs (disch := first | assumption | (simp only [wnA]; done) | (simp only [wnA]; omega) | omega | fail) [wkA, retV, stabOk, dC, ev, fillD, pickCells, putAt, bnd, slD, List.getElem?_cons_zero, List.getElem?_cons_succ, dR.eq_20, Mem.cell, Mem.row, wmA, hin, s8]
        exact hend
theorem c_tnum {w0 : World} {m : Mem} {S : ByteArray} {Q : Value → Mem → Prop} (hp : Part L0 m) (ht : Ten w0) (hE : ErrV w0) (hs : S.size ≤ 140737488355328)
    (h0 : ∀ m', Old m m' → numV S.data.toList = none → Q (.tuple ⟨[.int .i64 0, .int .i64 0, .bool false]⟩) m')
    (h1 : ∀ m' v, Old m m' → numV S.data.toList = some v → Q (.tuple ⟨[.int .i64 (nN S.data.toList : Nat), .int .i64 (v : Nat), .bool true]⟩) m') :
    AbC Tryz.prog w0 75 [.string S] m Q := by
  refine AbC_fn ok75 (by simp) ?_
  have r0 : ∀ ts' m', Old m m' → ts' 2 = .int .i64 0 → ts' 3 = .int .i64 0 → ts' 4 = .bool false → numV S.data.toList = none → bodyA ro75 Q .ret ts' m' := fun ts' m' o e2 e3 e4 hn => by
    simp -implicitDefEqProofs (disch := first | assumption | (simp only [wnA]; done) | (simp only [wnA]; omega) | omega | fail) [ro75, wkA, retV, stabOk, dC, ev, fillD, pickCells, putAt, bnd, slD, List.getElem?_cons_zero, List.getElem?_cons_succ, dR.eq_20, Mem.cell, Mem.row, wmA, e2, e3, e4]
    exact h0 m' o hn
  have r1 : ∀ ts' m' (v : Nat), Old m m' → ts' 2 = .int .i64 (nN S.data.toList : Nat) → ts' 3 = .int .i64 (v : Nat) → ts' 4 = .bool true → numV S.data.toList = some v → bodyA ro75 Q .ret ts' m' := fun ts' m' v o e2 e3 e4 hn => by
    simp -implicitDefEqProofs (disch := first | assumption | (simp only [wnA]; done) | (simp only [wnA]; omega) | omega | fail) [ro75, wkA, retV, stabOk, dC, ev, fillD, pickCells, putAt, bnd, slD, List.getElem?_cons_zero, List.getElem?_cons_succ, dR.eq_20, Mem.cell, Mem.row, wmA, e2, e3, e4]
    exact h1 m' v o hn
  simp -implicitDefEqProofs (disch := first | assumption | (simp only [wnA]; done) | (simp only [wnA]; omega) | omega | fail) [rc75, wkA, retV, stabOk, dC, ev, fillD, pickCells, putAt, bnd, slD, List.getElem?_cons_zero, List.getElem?_cons_succ, dR.eq_20, Mem.cell, Mem.row, wmA]
  refine c_pre ?_
  cases hh : hexH S.data.toList with
  | true =>
    have eB : nB S.data.toList = 16 := by simp [nB, hh]
    have eF : nF S.data.toList = 2 := by simp [nF, hh]
    simp -implicitDefEqProofs (disch := first | assumption | (simp only [wnA]; done) | (simp only [wnA]; omega) | omega | fail) [wkA, retV, stabOk, dC, ev, fillD, pickCells, putAt, bnd, slD, List.getElem?_cons_zero, List.getElem?_cons_succ, dR.eq_20, Mem.cell, Mem.row, wmA]
    exact w_num hp ht hE hs (by simp [frA_at]) (by rw [eB]; simp) (by rw [eF]; simp) (by rw [eB]; simp [sgS]) r0 r1
  | false =>
    have eB : nB S.data.toList = 10 := by simp [nB, hh]
    have eF : nF S.data.toList = 0 := by simp [nF, hh]
    simp -implicitDefEqProofs (disch := first | assumption | (simp only [wnA]; done) | (simp only [wnA]; omega) | omega | fail) [wkA, retV, stabOk, dC, ev, fillD, pickCells, putAt, bnd, slD, List.getElem?_cons_zero, List.getElem?_cons_succ, dR.eq_20, Mem.cell, Mem.row, wmA]
    exact w_num hp ht hE hs (by simp [frA_at]) (by rw [eB]; simp) (by rw [eF]; simp) (by rw [eB]; simp [sgS]) r0 r1
end Go.Proofs.YtjlicambfepfiaaGreatDoor.Ab
/- The tokens of a text: texts in quotes. -/
set_option linter.unusedVariables false
set_option linter.unusedSimpArgs false
namespace Go.Proofs.YtjlicambfepfiaaGreatDoor.Ab
open Go Go.RowKit
set_option maxHeartbeats 1000000
set_option maxRecDepth 100000

def escS : List UInt8 := [92, 34, 114, 110]
theorem esc_no (c : UInt8) : decide (Lib.indexByte escS c < 0) = (escD c).isNone :=
  beq_iff_eq.1 (allB (p := fun c => decide (Lib.indexByte escS c < 0) == (escD c).isNone) (by decide +kernel) c)
theorem esc_in {c x : UInt8} (h : escD c = some x) : (c.toNat = 114 ∧ x = 13) ∨ (c.toNat ≠ 114 ∧ c.toNat = 110 ∧ x = 10) ∨ (c.toNat ≠ 114 ∧ c.toNat ≠ 110 ∧ x = c) := by
  unfold escD at h
  split at h
  · rename_i hc
    simp at h; subst h
    exact .inr (.inr ⟨by omega, by omega, UInt8.toNat_inj.1 (by rw [hc]; rfl)⟩)
  · split at h
    · rename_i hc
      simp at h; subst h
      exact .inr (.inr ⟨by omega, by omega, UInt8.toNat_inj.1 (by rw [hc]; rfl)⟩)
    · split at h
      · simp at h; subst h
        exact .inl ⟨by assumption, rfl⟩
      · split at h
        · simp at h; subst h
          exact .inr (.inl ⟨by assumption, by assumption, rfl⟩)
        · cases h

theorem qd_q {c : UInt8} {r : List UInt8} (h : c.toNat = 34) : qd (c :: r) = some (1, []) := by
  cases r <;> simp [qd, h]
theorem qd_bad {c : UInt8} {r : List UInt8} (h : c.toNat < 32 ∨ 126 < c.toNat) : qd (c :: r) = none := by
  have h34 : ¬ c.toNat = 34 := by omega
  cases r <;> simp [qd, h, h34]
theorem qd_ch {c : UInt8} {r : List UInt8} (h : ¬ (c.toNat < 32 ∨ 126 < c.toNat)) (h34 : c.toNat ≠ 34) (h92 : c.toNat ≠ 92) : qd (c :: r) = (qd r).map fun p => (p.1 + 1, c :: p.2) := by
  cases r with
  | nil => simp [qd, h34]
  | cons e r => simp [qd, h, h34, h92]
theorem qd_e0 {c : UInt8} (h : c.toNat = 92) : qd [c] = none := by simp [qd, h]
theorem qd_e1 {c e : UInt8} {r : List UInt8} (h : c.toNat = 92) (he : escD e = none) : qd (c :: e :: r) = none := by simp [qd, h, he]
theorem qd_e2 {c e x : UInt8} {r : List UInt8} (h : c.toNat = 92) (he : escD e = some x) : qd (c :: e :: r) = (qd r).map fun p => (p.1 + 2, x :: p.2) := by simp [qd, h, he]

theorem c_tquo {w0 : World} {m : Mem} {S : ByteArray} {Q : Value → Mem → Prop} (hs1 : 1 ≤ S.size) (hs : S.size ≤ 1000000000)
    (h0 : ∀ m', Old m m' → qd (S.data.toList.drop 1) = none → Q (.tuple ⟨[.int .i64 0, .string ⟨#[]⟩, .bool false]⟩) m')
    (h1 : ∀ m' n t, Old m m' → qd (S.data.toList.drop 1) = some (n, t) → Q (.tuple ⟨[.int .i64 (n + 1 : Nat), .string ⟨⟨t⟩⟩, .bool true]⟩) m') :
    AbC Tryz.prog w0 76 [.string S] m Q := by
  refine AbC_fn ok76 (by simp) ?_
  simp -implicitDefEqProofs (disch := first | assumption | (simp only [wnA]; done) | (simp only [wnA]; omega) | omega | fail) [rc76, ro76, wkA, retV, stabOk, dC, ev, fillD, pickCells, putAt, bnd, slD, List.getElem?_cons_zero, List.getElem?_cons_succ, dR.eq_20, Mem.cell, Mem.row, wmA]
  have r0 : ∀ (ts' : Fr) m', Old m m' → ts' 2 = .int .i64 0 → ts' 3 = .string ⟨#[]⟩ → ts' 4 = .bool false → qd (S.data.toList.drop 1) = none → bodyA ro76 Q .ret ts' m' := fun ts' m' o e2 e3 e4 hn => by
    simp -implicitDefEqProofs (disch := first | assumption | (simp only [wnA]; done) | (simp only [wnA]; omega) | omega | fail) [ro76, wkA, retV, stabOk, dC, ev, fillD, pickCells, putAt, bnd, slD, List.getElem?_cons_zero, List.getElem?_cons_succ, dR.eq_20, Mem.cell, Mem.row, wmA, e2, e3, e4]
    exact h0 m' o hn
  simp only [ro76] at r0
  refine LoopW_of (fun k ts m' => ∃ j out, j + k = S.size ∧ 1 ≤ j ∧ out.length < j ∧ ts 0 = .string S ∧ ts 6 = .int .i64 (j : Nat) ∧ ts 5 = .pointer (some ⟨m.next, 0, none⟩) ∧ Bld m m' m.next out ∧ qd (S.data.toList.drop 1) = (qd (S.data.toList.drop j)).map fun p => (p.1 + (j - 1), out ++ p.2)) (S.size - 1) ?_ ?_
  · exact ⟨1, [], by omega, by omega, by simp, by simp [frA_at], by simp, by simp, Bld.new (Old.refl m), by simp⟩
  · rintro k ts m2 K ⟨j, out, hj, hj1, hol, t0, t6, t5, hb, hqd⟩ hK
    simp -implicitDefEqProofs (disch := first | assumption | (simp only [wnA]; done) | (simp only [wnA]; omega) | omega | fail) [rc76_3, wkA, retV, stabOk, dC, ev, fillD, pickCells, putAt, bnd, slD, List.getElem?_cons_zero, List.getElem?_cons_succ, dR.eq_20, Mem.cell, Mem.row, wmA, t0, t6]
    rcases hd : S.data.toList.drop j with _ | ⟨c, r⟩
    · have hjj := drop_nil hd (by omega)
      have hn : ¬ j < S.size := by omega
      rw [hd] at hqd
      simp -implicitDefEqProofs (disch := first | assumption | (simp only [wnA]; done) | (simp only [wnA]; omega) | omega | fail) [wkA, retV, stabOk, dC, ev, fillD, pickCells, putAt, bnd, slD, List.getElem?_cons_zero, List.getElem?_cons_succ, dR.eq_20, Mem.cell, Mem.row, wmA, t0, t6, hn, rc76_4]
      exact h0 m2 hb.1 (by rw [hqd]; rfl)
    · obtain ⟨hlt, g1, hr⟩ := at_S hd
      rw [hd] at hqd
      have hjw : IntKind.i64.wrap ((j : Int) + 1) = ((j + 1 : Nat) : Int) := by rw [w64 (by omega)]; omega
      have hjw2 : IntKind.i64.wrap (((j + 1 : Nat) : Int) + 1) = ((j + 2 : Nat) : Int) := by rw [w64 (by omega)]; omega
      have hob : out.length + 1 ≤ 140737488355328 := by omega
      by_cases h34 : c.toNat = 34
      · have i34 : (c.toNat : Int) = 34 := by omega
        simp -implicitDefEqProofs (disch := first | assumption | (simp only [wnA]; done) | (simp only [wnA]; omega) | omega | fail) [wkA, retV, stabOk, dC, ev, fillD, pickCells, putAt, bnd, slD, List.getElem?_cons_zero, List.getElem?_cons_succ, dR.eq_20, Mem.cell, Mem.row, wmA, t0, t5, t6, hlt, g1, getOf g1, rc76_2, i34, hjw]
        refine c_BString hb (by omega) fun m3 h3 => ?_
        simp -implicitDefEqProofs (disch := first | assumption | (simp only [wnA]; done) | (simp only [wnA]; omega) | omega | fail) [wkA, retV, stabOk, dC, ev, fillD, pickCells, putAt, bnd, slD, List.getElem?_cons_zero, List.getElem?_cons_succ, dR.eq_20, Mem.cell, Mem.row, wmA]
        have := h1 m3 j out h3 (by rw [hqd, qd_q h34]; simp; omega)
        exact this
      · have i34 : ¬ (c.toNat : Int) = 34 := by omega
        by_cases hbad : c.toNat < 32 ∨ 126 < c.toNat
        · have hno : qd (S.data.toList.drop 1) = none := by rw [hqd, qd_bad hbad]; rfl
          by_cases h32 : c.toNat < 32
          · have i32 : (c.toNat : Int) < 32 := by omega
            simp -implicitDefEqProofs (disch := first | assumption | (simp only [wnA]; done) | (simp only [wnA]; omega) | omega | fail) [wkA, retV, stabOk, dC, ev, fillD, pickCells, putAt, bnd, slD, List.getElem?_cons_zero, List.getElem?_cons_succ, dR.eq_20, Mem.cell, Mem.row, wmA, t0, t5, t6, hlt, g1, getOf g1, rc76_2, beqF i34, ltT i32]
            exact h0 m2 hb.1 hno
          · have i32 : (32 : Int) ≤ (c.toNat : Int) := by omega
            have i126 : (126 : Int) < (c.toNat : Int) := by omega
            simp -implicitDefEqProofs (disch := first | assumption | (simp only [wnA]; done) | (simp only [wnA]; omega) | omega | fail) [wkA, retV, stabOk, dC, ev, fillD, pickCells, putAt, bnd, slD, List.getElem?_cons_zero, List.getElem?_cons_succ, dR.eq_20, Mem.cell, Mem.row, wmA, t0, t5, t6, hlt, g1, getOf g1, rc76_2, beqF i34, ltF i32, gtT i126]
            exact h0 m2 hb.1 hno
        · have i32 : (32 : Int) ≤ (c.toNat : Int) := by omega
          have i126 : (c.toNat : Int) ≤ 126 := by omega
          by_cases h92 : c.toNat = 92
          · have i92 : (c.toNat : Int) = 92 := by omega
            rcases r with _ | ⟨e, r⟩
            · have hno : qd (S.data.toList.drop 1) = none := by rw [hqd, qd_e0 h92]; rfl
              have hjs := drop_nil hr (by omega)
              have ijs : (j : Int) + 1 = (S.size : Int) := by omega
              simp -implicitDefEqProofs (disch := first | assumption | (simp only [wnA]; done) | (simp only [wnA]; omega) | omega | fail) [wkA, retV, stabOk, dC, ev, fillD, pickCells, putAt, bnd, slD, List.getElem?_cons_zero, List.getElem?_cons_succ, dR.eq_20, Mem.cell, Mem.row, wmA, t0, t5, t6, hlt, g1, getOf g1, rc76_2, rc76_1, beqF i34, ltF i32, gtF i126, bneF i92, hjw, beqT ijs]
              exact h0 m2 hb.1 hno
            · obtain ⟨hlt2, g2, hr2⟩ := at_S hr
              have ijs : (j : Int) + 1 ≠ (S.size : Int) := by omega
              have hj2 : ((j : Int) + 1).toNat = j + 1 := by omega
              have hj3 : (0 : Int) ≤ (j : Int) + 1 := by omega
              simp -implicitDefEqProofs (disch := first | assumption | (simp only [wnA]; done) | (simp only [wnA]; omega) | omega | fail) [wkA, retV, stabOk, dC, ev, fillD, pickCells, putAt, bnd, slD, List.getElem?_cons_zero, List.getElem?_cons_succ, dR.eq_20, Mem.cell, Mem.row, wmA, t0, t5, t6, hlt, g1, getOf g1, rc76_2, rc76_1, beqF i34, ltF i32, gtF i126, bneF i92, hjw, beqF ijs, hlt2, g2, getOf g2, hj2, hj3]
              refine c_iByte ?_
              have hes := esc_no e
              cases he : escD e with
              | none =>
                have hno : qd (S.data.toList.drop 1) = none := by rw [hqd, qd_e1 h92 he]; rfl
                rw [he] at hes
                have hes := of_decide_eq_true hes
                simp only [escS] at hes
                simp -implicitDefEqProofs (disch := first | assumption | (simp only [wnA]; done) | (simp only [wnA]; omega) | omega | fail) [wkA, retV, stabOk, dC, ev, fillD, pickCells, putAt, bnd, slD, List.getElem?_cons_zero, List.getElem?_cons_succ, dR.eq_20, Mem.cell, Mem.row, wmA, hes]
                exact h0 m2 hb.1 hno
              | some x =>
                rw [he] at hes
                have hes2 : (0 : Int) ≤ Lib.indexByte [92, 34, 114, 110] e := by
                  have := of_decide_eq_false hes
                  simp only [escS] at this
                  omega
                have hjw3 : IntKind.i64.wrap ((j : Int) + 1 + 1) = (j : Int) + 1 + 1 := w64 (by omega)
                have fin : ∀ (ts' : Fr) (m' : Mem), ts' 0 = ts 0 → ts' 5 = ts 5 → ts' 6 = .int .i64 ((j : Int) + 1 + 1) → Bld m m' m.next (out ++ [x]) → K ts' m' := fun ts' m' e0 e5 e6 hb' =>
                  hK (k - 2) ts' m' (by omega) ⟨j + 2, out ++ [x], by omega, by omega, by simp; omega, by rw [e0, t0], by rw [e6]; congr 1, by rw [e5, t5], hb', by
                    rw [hqd, qd_e2 h92 he, Option.map_map]
                    have hd2 : S.data.toList.drop (j + 2) = r := hr2
                    rw [hd2]
                    congr 1
                    funext p
                    simp
                    omega⟩
                rcases esc_in he with ⟨a1, rfl⟩ | ⟨a1, a2, rfl⟩ | ⟨a1, a2, rfl⟩
                · have i1 : (e.toNat : Int) = 114 := by omega
                  simp -implicitDefEqProofs (disch := first | assumption | (simp only [wnA]; done) | (simp only [wnA]; omega) | omega | fail) [wkA, retV, stabOk, dC, ev, fillD, pickCells, putAt, bnd, slD, List.getElem?_cons_zero, List.getElem?_cons_succ, dR.eq_20, Mem.cell, Mem.row, wmA, ltF hes2, rc76_0, t0, t5, t6, hlt2, g2, getOf g2, hj2, hj3, i1]
                  refine c_WriteByte (b := 13) hb hob fun m3 h3 => ?_
                  simp -implicitDefEqProofs (disch := first | assumption | (simp only [wnA]; done) | (simp only [wnA]; omega) | omega | fail) [wkA, retV, stabOk, dC, ev, fillD, pickCells, putAt, bnd, slD, List.getElem?_cons_zero, List.getElem?_cons_succ, dR.eq_20, Mem.cell, Mem.row, wmA, hjw3]
                  exact fin _ m3 (by simp) (by simp) (by simp) h3
                · have i1 : ¬ (e.toNat : Int) = 114 := by omega
                  have i2 : (e.toNat : Int) = 110 := by omega
                  simp -implicitDefEqProofs (disch := first | assumption | (simp only [wnA]; done) | (simp only [wnA]; omega) | omega | fail) [wkA, retV, stabOk, dC, ev, fillD, pickCells, putAt, bnd, slD, List.getElem?_cons_zero, List.getElem?_cons_succ, dR.eq_20, Mem.cell, Mem.row, wmA, ltF hes2, rc76_0, t0, t5, t6, hlt2, g2, getOf g2, hj2, hj3, beqF i1, i2]
                  refine c_WriteByte (b := 10) hb hob fun m3 h3 => ?_
                  simp -implicitDefEqProofs (disch := first | assumption | (simp only [wnA]; done) | (simp only [wnA]; omega) | omega | fail) [wkA, retV, stabOk, dC, ev, fillD, pickCells, putAt, bnd, slD, List.getElem?_cons_zero, List.getElem?_cons_succ, dR.eq_20, Mem.cell, Mem.row, wmA, hjw3]
                  exact fin _ m3 (by simp) (by simp) (by simp) h3
                · have i1 : ¬ (x.toNat : Int) = 114 := by omega
                  have i2 : ¬ (x.toNat : Int) = 110 := by omega
                  simp -implicitDefEqProofs (disch := first | assumption | (simp only [wnA]; done) | (simp only [wnA]; omega) | omega | fail) [wkA, retV, stabOk, dC, ev, fillD, pickCells, putAt, bnd, slD, List.getElem?_cons_zero, List.getElem?_cons_succ, dR.eq_20, Mem.cell, Mem.row, wmA, ltF hes2, rc76_0, t0, t5, t6, hlt2, g2, getOf g2, hj2, hj3, beqF i1, beqF i2]
                  refine c_WriteByte hb hob fun m3 h3 => ?_
                  simp -implicitDefEqProofs (disch := first | assumption | (simp only [wnA]; done) | (simp only [wnA]; omega) | omega | fail) [wkA, retV, stabOk, dC, ev, fillD, pickCells, putAt, bnd, slD, List.getElem?_cons_zero, List.getElem?_cons_succ, dR.eq_20, Mem.cell, Mem.row, wmA, hjw3]
                  exact fin _ m3 (by simp) (by simp) (by simp) h3
          · have i92 : ¬ (c.toNat : Int) = 92 := by omega
            simp -implicitDefEqProofs (disch := first | assumption | (simp only [wnA]; done) | (simp only [wnA]; omega) | omega | fail) [wkA, retV, stabOk, dC, ev, fillD, pickCells, putAt, bnd, slD, List.getElem?_cons_zero, List.getElem?_cons_succ, dR.eq_20, Mem.cell, Mem.row, wmA, t0, t5, t6, hlt, g1, getOf g1, rc76_2, beqF i34, ltF i32, gtF i126, bneT i92]
            refine c_WriteByte hb hob fun m3 h3 => ?_
            simp -implicitDefEqProofs (disch := first | assumption | (simp only [wnA]; done) | (simp only [wnA]; omega) | omega | fail) [wkA, retV, stabOk, dC, ev, fillD, pickCells, putAt, bnd, slD, List.getElem?_cons_zero, List.getElem?_cons_succ, dR.eq_20, Mem.cell, Mem.row, wmA, t6, hjw]
            exact hK (k - 1) _ m3 (by omega) ⟨j + 1, out ++ [c], by omega, by omega, by simp; omega, by simp [t0], by simp, by simp [t5], h3, by
              rw [hqd, hr, qd_ch hbad h34 h92, Option.map_map]
              congr 1
              funext p
              simp
              omega⟩
end Go.Proofs.YtjlicambfepfiaaGreatDoor.Ab
/- The tokens of a text: one token. -/
set_option linter.unusedVariables false
set_option linter.unusedSimpArgs false
namespace Go.Proofs.YtjlicambfepfiaaGreatDoor.Ab
open Go Go.RowKit
set_option maxHeartbeats 1000000
set_option maxRecDepth 100000

def sgnS : List UInt8 := [58, 59, 44, 123, 125]
theorem sgn_in (c : UInt8) : decide (0 ≤ Lib.indexByte sgnS c) = isSg c :=
  beq_iff_eq.1 (allB (p := fun c => decide (0 ≤ Lib.indexByte sgnS c) == isSg c) (by decide +kernel) c)
theorem let_dig {c : UInt8} (h : isLet c = true) : isDig c = false := by
  simp only [isLet, Bool.and_eq_true, decide_eq_true_eq] at h
  simp only [isDig, Bool.and_eq_false_iff, decide_eq_false_iff_not]
  omega
theorem ext0 {S : ByteArray} {n : Nat} : S.extract 0 n = ⟨⟨S.data.toList.take n⟩⟩ := by
  rw [Lib.extract_eq]; simp

theorem c_tone {w0 : World} {m : Mem} {S : ByteArray} {Q : Value → Mem → Prop} (hp : Part L0 m) (ht : Ten w0) (hE : ErrV w0) (hs1 : 1 ≤ S.size) (hs : S.size ≤ 1000000)
    (h0 : ∀ m' (t : Tk), Old m m' → oneL S.data.toList = none → Q (.tuple ⟨[.agg ⟨t.cells 0⟩, .int .i64 0]⟩) m')
    (h1 : ∀ m' (t : Tk) (n : Nat), Old m m' → oneL S.data.toList = some (t, n) → Q (.tuple ⟨[.agg ⟨t.cells 0⟩, .int .i64 n]⟩) m') :
    AbC Tryz.prog w0 48 [.string S] m Q := by
  refine AbC_fn ok48 (by simp) ?_
  have hl : S.data.toList.length = S.size := by simp
  obtain ⟨c, r, hr⟩ : ∃ c r, S.data.toList = c :: r := by
    match S.data.toList, hl with
    | c :: r, _ => exact ⟨c, r, rfl⟩
    | [], e => simp at e; omega
  obtain ⟨hlt, g1, hr1⟩ := at_S (S := S) (j := 0) (c := c) (r := r) (by rw [List.drop_zero, hr])
  simp only [Nat.zero_add] at hr1
  have o1 : Old m (m.push (.own [.int .i64 0, .string ⟨#[]⟩, .int .i64 0, .int .i64 0] 87)) := (Old.refl m).push _
  have gT : (m.push (.own [.int .i64 0, .string ⟨#[]⟩, .int .i64 0, .int .i64 0] 87)).get m.next = .own [.int .i64 0, .string ⟨#[]⟩, .int .i64 0, .int .i64 0] 87 := by simp
  have nT : m.next + 1 = (m.push (.own [.int .i64 0, .string ⟨#[]⟩, .int .i64 0, .int .i64 0] 87)).next := by simp
  simp -implicitDefEqProofs (disch := first | assumption | (simp only [wnA]; done) | (simp only [wnA]; omega) | omega | fail) [rc48, ro48, wkA, retV, stabOk, dC, ev, fillD, pickCells, putAt, bnd, slD, List.getElem?_cons_zero, List.getElem?_cons_succ, dR.eq_20, Mem.cell, Mem.row, wmA, hlt, g1, getOf g1]
  generalize m.push (.own [.int .i64 0, .string ⟨#[]⟩, .int .i64 0, .int .i64 0] 87) = m1 at *
  refine c_letter ?_
  cases hle : isLet c with
  | true =>
    have ho : oneL S.data.toList = some (⟨1, S.data.toList.take (wordN false S.data.toList), 0⟩, wordN false S.data.toList) := by rw [hr]; simp [oneL, hle]
    have hwl := wordN_le false S.data.toList
    simp -implicitDefEqProofs (disch := first | assumption | (simp only [wnA]; done) | (simp only [wnA]; omega) | omega | fail) [wkA, retV, stabOk, dC, ev, fillD, pickCells, putAt, bnd, slD, List.getElem?_cons_zero, List.getElem?_cons_succ, dR.eq_20, Mem.cell, Mem.row, wmA]
    refine c_word (by omega) ?_
    generalize wordN false S.data.toList = n at *
    have hn : n ≤ S.size := by omega
    have hn2 : (n : Int) ≤ (S.size : Int) := by omega
    simp -implicitDefEqProofs (disch := first | assumption | (simp only [wnA]; done) | (simp only [wnA]; omega) | omega | fail) [wkA, retV, stabOk, dC, ev, fillD, pickCells, putAt, bnd, slD, List.getElem?_cons_zero, List.getElem?_cons_succ, dR.eq_20, Mem.cell, Mem.row, wmA, hn, hn2, ext0]
    refine SK_st (i := m.next) (o := 0) (by simp [wkA, retV, stabOk, dC, ev, fillD, pickCells, putAt, bnd, slD, List.getElem?_cons_zero, List.getElem?_cons_succ, dR.eq_20]) (e := 87) gT (by simp) (by simp [wkA, retV, stabOk, dC, ev, fillD, pickCells, putAt, bnd, slD, List.getElem?_cons_zero, List.getElem?_cons_succ, dR.eq_20]) (by simp [wkA, retV, stabOk, dC, ev, fillD, pickCells, putAt, bnd, slD, List.getElem?_cons_zero, List.getElem?_cons_succ, dR.eq_20, oneC]) ?_
    simp -implicitDefEqProofs (disch := first | assumption | (simp only [wnA]; done) | (simp only [wnA]; omega) | omega | fail) [wkA, retV, stabOk, dC, ev, fillD, pickCells, putAt, bnd, slD, List.getElem?_cons_zero, List.getElem?_cons_succ, dR.eq_20, Mem.cell, Mem.row, wmA]
    exact h1 _ ⟨1, S.data.toList.take n, 0⟩ n (o1.set (Nat.le_refl _) _) ho
  | false =>
    simp -implicitDefEqProofs (disch := first | assumption | (simp only [wnA]; done) | (simp only [wnA]; omega) | omega | fail) [wkA, retV, stabOk, dC, ev, fillD, pickCells, putAt, bnd, slD, List.getElem?_cons_zero, List.getElem?_cons_succ, dR.eq_20, Mem.cell, Mem.row, wmA]
    refine c_digit ?_
    cases hdi : isDig c with
    | true =>
      have ho : oneL S.data.toList = (numV S.data.toList).map fun v => ((⟨2, S.data.toList.take (nN S.data.toList), ((v : Nat) : Int)⟩ : Tk), nN S.data.toList) := by rw [hr]; simp [oneL, hle, hdi]
      have hnl := nN_le S.data.toList
      simp -implicitDefEqProofs (disch := first | assumption | (simp only [wnA]; done) | (simp only [wnA]; omega) | omega | fail) [wkA, retV, stabOk, dC, ev, fillD, pickCells, putAt, bnd, slD, List.getElem?_cons_zero, List.getElem?_cons_succ, dR.eq_20, Mem.cell, Mem.row, wmA]
      refine c_tnum (o1.part hp) ht hE (by omega) (fun m2 o2 hn => ?_) fun m2 v o2 hn => ?_
      · rw [← o2.2 _ (by omega)] at gT
        have e0 : S.extract 0 0 = ⟨#[]⟩ := by rw [ext0]; rfl
        simp -implicitDefEqProofs (disch := first | assumption | (simp only [wnA]; done) | (simp only [wnA]; omega) | omega | fail) [wkA, retV, stabOk, dC, ev, fillD, pickCells, putAt, bnd, slD, List.getElem?_cons_zero, List.getElem?_cons_succ, dR.eq_20, Mem.cell, Mem.row, wmA, e0]
        refine SK_st (i := m.next) (o := 0) (by simp [wkA, retV, stabOk, dC, ev, fillD, pickCells, putAt, bnd, slD, List.getElem?_cons_zero, List.getElem?_cons_succ, dR.eq_20]) (e := 87) gT (by simp) (by simp [wkA, retV, stabOk, dC, ev, fillD, pickCells, putAt, bnd, slD, List.getElem?_cons_zero, List.getElem?_cons_succ, dR.eq_20]) (by simp [wkA, retV, stabOk, dC, ev, fillD, pickCells, putAt, bnd, slD, List.getElem?_cons_zero, List.getElem?_cons_succ, dR.eq_20, oneC]) ?_
        simp -implicitDefEqProofs (disch := first | assumption | (simp only [wnA]; done) | (simp only [wnA]; omega) | omega | fail) [wkA, retV, stabOk, dC, ev, fillD, pickCells, putAt, bnd, slD, List.getElem?_cons_zero, List.getElem?_cons_succ, dR.eq_20, Mem.cell, Mem.row, wmA]
        exact h0 _ ⟨2, [], 0⟩ ((o1.trans o2).set (Nat.le_refl _) _) (by rw [ho, hn]; rfl)
      · rw [← o2.2 _ (by omega)] at gT
        generalize nN S.data.toList = n at *
        have hn1 : n ≤ S.size := by omega
        have hn2 : (n : Int) ≤ (S.size : Int) := by omega
        simp -implicitDefEqProofs (disch := first | assumption | (simp only [wnA]; done) | (simp only [wnA]; omega) | omega | fail) [wkA, retV, stabOk, dC, ev, fillD, pickCells, putAt, bnd, slD, List.getElem?_cons_zero, List.getElem?_cons_succ, dR.eq_20, Mem.cell, Mem.row, wmA, hn1, hn2, ext0]
        refine SK_st (i := m.next) (o := 0) (by simp [wkA, retV, stabOk, dC, ev, fillD, pickCells, putAt, bnd, slD, List.getElem?_cons_zero, List.getElem?_cons_succ, dR.eq_20]) (e := 87) gT (by simp) (by simp [wkA, retV, stabOk, dC, ev, fillD, pickCells, putAt, bnd, slD, List.getElem?_cons_zero, List.getElem?_cons_succ, dR.eq_20]) (by simp [wkA, retV, stabOk, dC, ev, fillD, pickCells, putAt, bnd, slD, List.getElem?_cons_zero, List.getElem?_cons_succ, dR.eq_20, oneC]) ?_
        simp -implicitDefEqProofs (disch := first | assumption | (simp only [wnA]; done) | (simp only [wnA]; omega) | omega | fail) [wkA, retV, stabOk, dC, ev, fillD, pickCells, putAt, bnd, slD, List.getElem?_cons_zero, List.getElem?_cons_succ, dR.eq_20, Mem.cell, Mem.row, wmA]
        exact h1 _ ⟨2, S.data.toList.take n, v⟩ n ((o1.trans o2).set (Nat.le_refl _) _) (by rw [ho, hn]; rfl)
    | false =>
      simp -implicitDefEqProofs (disch := first | assumption | (simp only [wnA]; done) | (simp only [wnA]; omega) | omega | fail) [wkA, retV, stabOk, dC, ev, fillD, pickCells, putAt, bnd, slD, List.getElem?_cons_zero, List.getElem?_cons_succ, dR.eq_20, Mem.cell, Mem.row, wmA]
      by_cases h34 : c.toNat = 34
      · have i34 : (c.toNat : Int) = 34 := by omega
        have ho : oneL S.data.toList = (qd (S.data.toList.drop 1)).map fun p => (⟨3, p.2, 0⟩, p.1 + 1) := by rw [hr]; simp [oneL, hle, hdi, h34]
        simp -implicitDefEqProofs (disch := first | assumption | (simp only [wnA]; done) | (simp only [wnA]; omega) | omega | fail) [wkA, retV, stabOk, dC, ev, fillD, pickCells, putAt, bnd, slD, List.getElem?_cons_zero, List.getElem?_cons_succ, dR.eq_20, Mem.cell, Mem.row, wmA, i34]
        refine c_tquo hs1 (by omega) (fun m2 o2 hn => ?_) fun m2 n t o2 hn => ?_
        · rw [← o2.2 _ (by omega)] at gT
          simp -implicitDefEqProofs (disch := first | assumption | (simp only [wnA]; done) | (simp only [wnA]; omega) | omega | fail) [wkA, retV, stabOk, dC, ev, fillD, pickCells, putAt, bnd, slD, List.getElem?_cons_zero, List.getElem?_cons_succ, dR.eq_20, Mem.cell, Mem.row, wmA]
          refine SK_st (i := m.next) (o := 0) (by simp [wkA, retV, stabOk, dC, ev, fillD, pickCells, putAt, bnd, slD, List.getElem?_cons_zero, List.getElem?_cons_succ, dR.eq_20]) (e := 87) gT (by simp) (by simp [wkA, retV, stabOk, dC, ev, fillD, pickCells, putAt, bnd, slD, List.getElem?_cons_zero, List.getElem?_cons_succ, dR.eq_20]) (by simp [wkA, retV, stabOk, dC, ev, fillD, pickCells, putAt, bnd, slD, List.getElem?_cons_zero, List.getElem?_cons_succ, dR.eq_20, oneC]) ?_
          simp -implicitDefEqProofs (disch := first | assumption | (simp only [wnA]; done) | (simp only [wnA]; omega) | omega | fail) [wkA, retV, stabOk, dC, ev, fillD, pickCells, putAt, bnd, slD, List.getElem?_cons_zero, List.getElem?_cons_succ, dR.eq_20, Mem.cell, Mem.row, wmA]
          exact h0 _ ⟨3, [], 0⟩ ((o1.trans o2).set (Nat.le_refl _) _) (by rw [ho, hn]; rfl)
        · rw [← o2.2 _ (by omega)] at gT
          generalize hN : n + 1 = N at *
          simp -implicitDefEqProofs (disch := first | assumption | (simp only [wnA]; done) | (simp only [wnA]; omega) | omega | fail) [wkA, retV, stabOk, dC, ev, fillD, pickCells, putAt, bnd, slD, List.getElem?_cons_zero, List.getElem?_cons_succ, dR.eq_20, Mem.cell, Mem.row, wmA]
          refine SK_st (i := m.next) (o := 0) (by simp [wkA, retV, stabOk, dC, ev, fillD, pickCells, putAt, bnd, slD, List.getElem?_cons_zero, List.getElem?_cons_succ, dR.eq_20]) (e := 87) gT (by simp) (by simp [wkA, retV, stabOk, dC, ev, fillD, pickCells, putAt, bnd, slD, List.getElem?_cons_zero, List.getElem?_cons_succ, dR.eq_20]) (by simp [wkA, retV, stabOk, dC, ev, fillD, pickCells, putAt, bnd, slD, List.getElem?_cons_zero, List.getElem?_cons_succ, dR.eq_20, oneC]) ?_
          simp -implicitDefEqProofs (disch := first | assumption | (simp only [wnA]; done) | (simp only [wnA]; omega) | omega | fail) [wkA, retV, stabOk, dC, ev, fillD, pickCells, putAt, bnd, slD, List.getElem?_cons_zero, List.getElem?_cons_succ, dR.eq_20, Mem.cell, Mem.row, wmA]
          exact h1 _ ⟨3, t, 0⟩ N ((o1.trans o2).set (Nat.le_refl _) _) (by rw [ho, hn]; simp [hN])
      · have i34 : ¬ (c.toNat : Int) = 34 := by omega
        simp -implicitDefEqProofs (disch := first | assumption | (simp only [wnA]; done) | (simp only [wnA]; omega) | omega | fail) [wkA, retV, stabOk, dC, ev, fillD, pickCells, putAt, bnd, slD, List.getElem?_cons_zero, List.getElem?_cons_succ, dR.eq_20, Mem.cell, Mem.row, wmA, beqF i34]
        refine c_iByte ?_
        have hin := sgn_in c
        cases hsg : isSg c with
        | true =>
          have ho : oneL S.data.toList = some (⟨4, [c], 0⟩, 1) := by rw [hr]; simp [oneL, hle, hdi, h34, hsg]
          have hin2 : (0 : Int) ≤ Lib.indexByte [58, 59, 44, 123, 125] c := by
            rw [hsg] at hin
            exact of_decide_eq_true hin
          have e1 : S.extract 0 1 = ⟨⟨[c]⟩⟩ := by rw [ext0, hr]; rfl
          have hs1' : (1 : Int) ≤ (S.size : Int) := by omega
          simp -implicitDefEqProofs (disch := first | assumption | (simp only [wnA]; done) | (simp only [wnA]; omega) | omega | fail) [wkA, retV, stabOk, dC, ev, fillD, pickCells, putAt, bnd, slD, List.getElem?_cons_zero, List.getElem?_cons_succ, dR.eq_20, Mem.cell, Mem.row, wmA, hin2, hs1, hs1', e1]
          refine SK_st (i := m.next) (o := 0) (by simp [wkA, retV, stabOk, dC, ev, fillD, pickCells, putAt, bnd, slD, List.getElem?_cons_zero, List.getElem?_cons_succ, dR.eq_20]) (e := 87) gT (by simp) (by simp [wkA, retV, stabOk, dC, ev, fillD, pickCells, putAt, bnd, slD, List.getElem?_cons_zero, List.getElem?_cons_succ, dR.eq_20]) (by simp [wkA, retV, stabOk, dC, ev, fillD, pickCells, putAt, bnd, slD, List.getElem?_cons_zero, List.getElem?_cons_succ, dR.eq_20, oneC]) ?_
          simp -implicitDefEqProofs (disch := first | assumption | (simp only [wnA]; done) | (simp only [wnA]; omega) | omega | fail) [wkA, retV, stabOk, dC, ev, fillD, pickCells, putAt, bnd, slD, List.getElem?_cons_zero, List.getElem?_cons_succ, dR.eq_20, Mem.cell, Mem.row, wmA]
          exact h1 _ ⟨4, [c], 0⟩ 1 (o1.set (Nat.le_refl _) _) ho
        | false =>
          have ho : oneL S.data.toList = none := by rw [hr]; simp [oneL, hle, hdi, h34, hsg]
          have hin2 : Lib.indexByte [58, 59, 44, 123, 125] c < 0 := by
            rw [hsg] at hin
            have := of_decide_eq_false hin
            simp only [sgnS] at this
            omega
          simp -implicitDefEqProofs (disch := first | assumption | (simp only [wnA]; done) | (simp only [wnA]; omega) | omega | fail) [wkA, retV, stabOk, dC, ev, fillD, pickCells, putAt, bnd, slD, List.getElem?_cons_zero, List.getElem?_cons_succ, dR.eq_20, Mem.cell, Mem.row, wmA, leF hin2, rc48_0]
          refine SK_st (i := m.next) (o := 0) (by simp [wkA, retV, stabOk, dC, ev, fillD, pickCells, putAt, bnd, slD, List.getElem?_cons_zero, List.getElem?_cons_succ, dR.eq_20]) (e := 87) gT (by simp) (by simp [wkA, retV, stabOk, dC, ev, fillD, pickCells, putAt, bnd, slD, List.getElem?_cons_zero, List.getElem?_cons_succ, dR.eq_20]) (by simp [wkA, retV, stabOk, dC, ev, fillD, pickCells, putAt, bnd, slD, List.getElem?_cons_zero, List.getElem?_cons_succ, dR.eq_20, oneC]) ?_
          simp -implicitDefEqProofs (disch := first | assumption | (simp only [wnA]; done) | (simp only [wnA]; omega) | omega | fail) [wkA, retV, stabOk, dC, ev, fillD, pickCells, putAt, bnd, slD, List.getElem?_cons_zero, List.getElem?_cons_succ, dR.eq_20, Mem.cell, Mem.row, wmA]
          exact h0 _ ⟨0, [], 0⟩ (o1.set (Nat.le_refl _) _) ho
end Go.Proofs.YtjlicambfepfiaaGreatDoor.Ab
/- The tokens of a text: token.Cut. -/
set_option linter.unusedVariables false
set_option linter.unusedSimpArgs false
namespace Go.Proofs.YtjlicambfepfiaaGreatDoor.Ab
open Go Go.RowKit
set_option maxHeartbeats 1000000
set_option maxRecDepth 100000

def cellP (p : Tk × Nat) : List Value := p.1.cells p.2
theorem cellP_len (p : Tk × Nat) : (cellP p).length = 4 := rfl
theorem cellsP_len (l : List (Tk × Nat)) : (l.flatMap cellP).length = l.length * 4 := by
  induction l with
  | nil => rfl
  | cons p l ih => simp only [List.flatMap_cons, List.length_append, ih, cellP_len, List.length_cons]; omega
def faultV (no a : Nat) : Value := .iface 92 (.agg ⟨[.int .i64 (no : Int), .int .i64 (a : Int)]⟩)
theorem c_Wrap {w0 : World} {m : Mem} {no a : Nat} {Q : Value → Mem → Prop} (hq : Q (faultV no a) m) : AbC Tryz.prog w0 47 [.int .i64 (no : Int), .int .i64 (a : Int)] m Q := by
  refine AbC_fn ok47 (by simp) ?_
  simp -implicitDefEqProofs (disch := first | assumption | (simp only [wnA]; done) | (simp only [wnA]; omega) | omega | fail) [rc47, ro47, wkA, retV, stabOk, dC, ev, fillD, pickCells, putAt, bnd, slD, List.getElem?_cons_zero, List.getElem?_cons_succ, dR.eq_20, Mem.cell, Mem.row, wmA]
  exact hq

/-- The state in which a text is cut further. -/
def CS (S : ByteArray) (b : Mem) (k : Nat) (ts : Fr) (m : Mem) : Prop := ∃ (a : Nat) (out : List (Tk × Nat)) (ob : Option Nat), a + k = S.size ∧ Old b m ∧ ts 0 = .string S ∧ ts 4 = slV ob out.length 4 ∧ ts 5 = .int .i64 (a : Nat) ∧
  SlO m 87 4 ob (out.flatMap cellP) out.length ∧ (∀ i, ob = some i → b.next ≤ i) ∧ out.length ≤ a ∧ cutL 0 S.data.toList = preC out (cutL a (S.data.toList.drop a))
theorem CS.move {S : ByteArray} {b m : Mem} {k k' : Nat} {ts ts' : Fr} {a a' : Nat} {out : List (Tk × Nat)} {ob : Option Nat} (h1 : a + k = S.size) (h2 : Old b m) (h3 : ts 0 = .string S) (h4 : ts 4 = slV ob out.length 4) (h6 : SlO m 87 4 ob (out.flatMap cellP) out.length) (h7 : ∀ i, ob = some i → b.next ≤ i) (h8 : out.length ≤ a)
    (e0 : ts' 0 = ts 0) (e4 : ts' 4 = ts 4) (e5 : ts' 5 = .int .i64 (a' : Nat)) (ha : a ≤ a') (hk : a' + k' = S.size) (hc : cutL 0 S.data.toList = preC out (cutL a' (S.data.toList.drop a'))) : CS S b k' ts' m :=
  ⟨a', out, ob, hk, h2, by rw [e0, h3], by rw [e4, h4], e5, h6, h7, by omega, hc⟩

theorem w_cmt {w0 : World} {Q : AQ} {ts : Fr} {m : Mem} {S : ByteArray} {a : Nat} (hs : S.size ≤ 4096) (ha : a ≤ S.size) (t0 : ts 0 = .string S) (t5 : ts 5 = .int .i64 (a : Nat))
    (hq : ∀ ts', ts' 0 = ts 0 → ts' 4 = ts 4 → ts' 5 = .int .i64 ((a + runN no10 (S.data.toList.drop a) : Nat) : Int) → Q (.exit 0) ts' m) : LoopW (AbW Tryz.prog w0 rc35_1) Q ts m := by
  refine LoopW_of (fun k ts' m' => ∃ j, j + k = S.size ∧ m' = m ∧ ts' 0 = ts 0 ∧ ts' 4 = ts 4 ∧ ts' 5 = .int .i64 (j : Nat) ∧ a + runN no10 (S.data.toList.drop a) = j + runN no10 (S.data.toList.drop j)) (S.size - a) ?_ ?_
  · exact ⟨a, by omega, rfl, rfl, rfl, t5, rfl⟩
  · rintro k ts2 m2 K ⟨j, hj, rfl, s0, s4, s5, hn⟩ hK
    rw [t0] at s0
    simp -implicitDefEqProofs (disch := first | assumption | (simp only [wnA]; done) | (simp only [wnA]; omega) | omega | fail) [rc35_1, wkA, retV, stabOk, dC, ev, fillD, pickCells, putAt, bnd, slD, List.getElem?_cons_zero, List.getElem?_cons_succ, dR.eq_20, Mem.cell, Mem.row, wmA, s0, s5]
    rcases hd : S.data.toList.drop j with _ | ⟨c, r⟩
    · have hjj := drop_nil hd (by omega)
      have hlt : ¬ j < S.size := by omega
      rw [hd] at hn
      simp -implicitDefEqProofs (disch := first | assumption | (simp only [wnA]; done) | (simp only [wnA]; omega) | omega | fail) [wkA, retV, stabOk, dC, ev, fillD, pickCells, putAt, bnd, slD, List.getElem?_cons_zero, List.getElem?_cons_succ, dR.eq_20, Mem.cell, Mem.row, wmA, s0, s5, hlt]
      exact hq _ (by simp [s0, t0]) (by simp [s4]) (by simp [s5, hn, runN])
    · obtain ⟨hlt, g1, hr⟩ := at_S hd
      have w1 : IntKind.i64.wrap ((j : Int) + 1) = (j : Int) + 1 := w64 (by omega)
      rw [hd] at hn
      by_cases h10 : c.toNat = 10
      · have i10 : (c.toNat : Int) = 10 := by omega
        simp -implicitDefEqProofs (disch := first | assumption | (simp only [wnA]; done) | (simp only [wnA]; omega) | omega | fail) [wkA, retV, stabOk, dC, ev, fillD, pickCells, putAt, bnd, slD, List.getElem?_cons_zero, List.getElem?_cons_succ, dR.eq_20, Mem.cell, Mem.row, wmA, s0, s5, hlt, g1, getOf g1, i10]
        exact hq _ (by simp [s0, t0]) (by simp [s4]) (by rw [hn]; simp [s5, runN, no10, h10])
      · have i10 : ¬ (c.toNat : Int) = 10 := by omega
        simp -implicitDefEqProofs (disch := first | assumption | (simp only [wnA]; done) | (simp only [wnA]; omega) | omega | fail) [wkA, retV, stabOk, dC, ev, fillD, pickCells, putAt, bnd, slD, List.getElem?_cons_zero, List.getElem?_cons_succ, dR.eq_20, Mem.cell, Mem.row, wmA, s0, s5, hlt, g1, getOf g1, bneT i10, rc35_0, w1]
        exact hK (k - 1) _ m2 (by omega) ⟨j + 1, by omega, rfl, by simp [s0, t0], by simp [s4], by simp, by rw [hn, hr]; simp only [runN, no10, bne_iff_ne, ne_eq, h10, not_false_eq_true, if_true]; omega⟩

theorem w_cut {w0 : World} {Q : AQ} {ts : Fr} {b m : Mem} {S : ByteArray} {k : Nat} (hp : Part L0 b) (ht : Ten w0) (hE : ErrV w0) (hs : S.size ≤ 4096) (hst : CS S b k ts m)
    (hg : ∀ k' ts' m', k' < k → CS S b k' ts' m' → Q (.goto 0) ts' m')
    (he : ∀ (ts' : Fr) m' (a : Nat), Old b m' → ts' 2 = .slice none 0 0 → ts' 3 = faultV 1 a → cutL 0 S.data.toList = .inl a → Q .ret ts' m')
    (hq : ∀ (ts' : Fr) m' i us, Old b m' → ts' 2 = slV (some i) us.length 4 → ts' 3 = .nilIface → SlO m' 87 4 (some i) (us.flatMap cellP) us.length → b.next ≤ i → us.length ≤ S.size + 1 → cutL 0 S.data.toList = .inr us → Q .ret ts' m') :
    AbW Tryz.prog w0 rc35_6 Q ts m := by
  obtain ⟨a, out, ob, h1, h2, t0, t4, t5, h6, h7, h8, hc⟩ := hst
  have hl := cellsP_len out
  simp -implicitDefEqProofs (disch := first | assumption | (simp only [wnA]; done) | (simp only [wnA]; omega) | omega | fail) [rc35_6, wkA, retV, stabOk, dC, ev, fillD, pickCells, putAt, bnd, slD, List.getElem?_cons_zero, List.getElem?_cons_succ, dR.eq_20, Mem.cell, Mem.row, wmA, t0, t5]
  rcases hd : S.data.toList.drop a with _ | ⟨c, r⟩
  · have haa := drop_nil hd (by omega)
    have ia : (a : Int) = (S.size : Int) := by omega
    rw [hd, cutL_nil] at hc
    simp -implicitDefEqProofs (disch := first | assumption | (simp only [wnA]; done) | (simp only [wnA]; omega) | omega | fail) [wkA, retV, stabOk, dC, ev, fillD, pickCells, putAt, bnd, slD, List.getElem?_cons_zero, List.getElem?_cons_succ, dR.eq_20, Mem.cell, Mem.row, wmA, beqT ia, t4, t5]
    rw [SK_bsl (cs := cellP (endT, a)) (by simp [wkA, retV, stabOk, dC, ev, fillD, pickCells, putAt, bnd, slD, List.getElem?_cons_zero, List.getElem?_cons_succ, dR.eq_20, cellP, Tk.cells, endT]) (by simp [cellP, Tk.cells, oneC])]
    simp -implicitDefEqProofs (disch := first | assumption | (simp only [wnA]; done) | (simp only [wnA]; omega) | omega | fail) [wkA, retV, stabOk, dC, ev, fillD, pickCells, putAt, bnd, slD, List.getElem?_cons_zero, List.getElem?_cons_succ, dR.eq_20, Mem.cell, Mem.row, wmA, t4]
    refine SK_ap (h6.push _) (by simp [wkA, retV, stabOk, dC, ev, fillD, pickCells, putAt, bnd, slD, List.getElem?_cons_zero, List.getElem?_cons_succ, dR.eq_20, t4]) (ys := cellP (endT, a)) (by simp -implicitDefEqProofs (disch := first | assumption | (simp only [wnA]; done) | (simp only [wnA]; omega) | omega | fail) [wkA, retV, stabOk, dC, ev, fillD, pickCells, putAt, bnd, slD, List.getElem?_cons_zero, List.getElem?_cons_succ, dR.eq_20, elemsV, Mem.cell, Mem.row, wmA, cellP, Tk.cells]) (k := 1) (by simp [wkA, retV, stabOk, dC, ev, fillD, pickCells, putAt, bnd, slD, List.getElem?_cons_zero, List.getElem?_cons_succ, dR.eq_20]) (by simp) (by simp [oneC, cellP, Tk.cells]) (by omega) (by simp only [maxLen]; omega) (by simp [cellP, Tk.cells]) ?_
    simp -implicitDefEqProofs (disch := first | assumption | (simp only [wnA]; done) | (simp only [wnA]; omega) | omega | fail) [wkA, retV, stabOk, dC, ev, fillD, pickCells, putAt, bnd, slD, List.getElem?_cons_zero, List.getElem?_cons_succ, dR.eq_20, Mem.cell, Mem.row, wmA]
    have hnew : SlO (((m.push (.own (cellP (endT, a)) 87)).kill ob).push (.own (out.flatMap cellP ++ cellP (endT, a)) 87)) 87 4 (some (m.next + 1)) (out.flatMap cellP ++ cellP (endT, a)) (out.length + 1) := SlO.new (m := (m.push (.own (cellP (endT, a)) 87)).kill ob) (e := 87) (sz := 4) (n := out.length + 1) (cs := out.flatMap cellP ++ cellP (endT, a)) (by rw [List.length_append, hl, cellP_len]; omega)
    refine hq _ _ (m.next + 1) (out ++ [(endT, a)]) (((h2.push _).kill h7).push _) (by simp) (by simp) ?_ (by have := h2.1; omega) (by simp; omega) (by rw [hc]; rfl)
    simpa using hnew
  · obtain ⟨hlt, g1, hr⟩ := at_S hd
    have ia : ¬ (a : Int) = (S.size : Int) := by omega
    have w1 : IntKind.i64.wrap ((a : Int) + 1) = (a : Int) + 1 := w64 (by omega)
    rw [hd] at hc
    simp -implicitDefEqProofs (disch := first | assumption | (simp only [wnA]; done) | (simp only [wnA]; omega) | omega | fail) [wkA, retV, stabOk, dC, ev, fillD, pickCells, putAt, bnd, slD, List.getElem?_cons_zero, List.getElem?_cons_succ, dR.eq_20, Mem.cell, Mem.row, wmA, beqF ia]
    have bl : isBl c = true → ∀ ts' : Fr, ts' 0 = ts 0 → ts' 4 = ts 4 → ts' 5 = .int .i64 ((a + 1 : Nat) : Int) → Q (.goto 0) ts' m := fun hb ts' e0 e4 e5 =>
      hg (k - 1) ts' m (by omega) (CS.move h1 h2 t0 t4 h6 h7 h8 e0 e4 e5 (by omega) (by omega) (by rw [hc, cutL_bl hb, hr]))
    by_cases h32 : c.toNat = 32
    · have i32 : (c.toNat : Int) = 32 := by omega
      simp -implicitDefEqProofs (disch := first | assumption | (simp only [wnA]; done) | (simp only [wnA]; omega) | omega | fail) [wkA, retV, stabOk, dC, ev, fillD, pickCells, putAt, bnd, slD, List.getElem?_cons_zero, List.getElem?_cons_succ, dR.eq_20, Mem.cell, Mem.row, wmA, t0, t5, hlt, g1, getOf g1, rc35_5, i32, w1]
      exact bl (by simp [isBl, h32]) _ (by simp) (by simp) (by simp)
    · have i32 : ¬ (c.toNat : Int) = 32 := by omega
      by_cases h9 : c.toNat = 9
      · have i9 : (c.toNat : Int) = 9 := by omega
        simp -implicitDefEqProofs (disch := first | assumption | (simp only [wnA]; done) | (simp only [wnA]; omega) | omega | fail) [wkA, retV, stabOk, dC, ev, fillD, pickCells, putAt, bnd, slD, List.getElem?_cons_zero, List.getElem?_cons_succ, dR.eq_20, Mem.cell, Mem.row, wmA, t0, t5, hlt, g1, getOf g1, rc35_5, i9, w1]
        exact bl (by simp [isBl, h9]) _ (by simp) (by simp) (by simp)
      · have i9 : ¬ (c.toNat : Int) = 9 := by omega
        by_cases h10 : c.toNat = 10
        · have i10 : (c.toNat : Int) = 10 := by omega
          simp -implicitDefEqProofs (disch := first | assumption | (simp only [wnA]; done) | (simp only [wnA]; omega) | omega | fail) [wkA, retV, stabOk, dC, ev, fillD, pickCells, putAt, bnd, slD, List.getElem?_cons_zero, List.getElem?_cons_succ, dR.eq_20, Mem.cell, Mem.row, wmA, t0, t5, hlt, g1, getOf g1, rc35_5, i10, w1]
          exact bl (by simp [isBl, h10]) _ (by simp) (by simp) (by simp)
        · have i10 : ¬ (c.toNat : Int) = 10 := by omega
          have hnb : isBl c = false := by simp [isBl, h32, h9, h10]
          simp -implicitDefEqProofs (disch := first | assumption | (simp only [wnA]; done) | (simp only [wnA]; omega) | omega | fail) [wkA, retV, stabOk, dC, ev, fillD, pickCells, putAt, bnd, slD, List.getElem?_cons_zero, List.getElem?_cons_succ, dR.eq_20, Mem.cell, Mem.row, wmA, t0, t5, hlt, g1, getOf g1, rc35_5, beqF i32, beqF i9, beqF i10, rc35_4]
          by_cases h35 : c.toNat = 35
          · have i35 : (c.toNat : Int) = 35 := by omega
            have hcm := run_cm (r := r) h35
            have hle := runN_le no10 (c :: r)
            have hdl := congrArg List.length hd
            rw [List.length_drop] at hdl
            have hsz : S.data.toList.length = S.size := by simp
            simp -implicitDefEqProofs (disch := first | assumption | (simp only [wnA]; done) | (simp only [wnA]; omega) | omega | fail) [wkA, retV, stabOk, dC, ev, fillD, pickCells, putAt, bnd, slD, List.getElem?_cons_zero, List.getElem?_cons_succ, dR.eq_20, Mem.cell, Mem.row, wmA, t0, t5, hlt, g1, getOf g1, i35]
            refine w_cmt (S := S) (a := a) hs (by omega) (by simp [t0]) (by simp [t5]) fun ts' e0 e4 e5 => ?_
            simp -implicitDefEqProofs (disch := first | assumption | (simp only [wnA]; done) | (simp only [wnA]; omega) | omega | fail) [wkA, retV, stabOk, dC, ev, fillD, pickCells, putAt, bnd, slD, List.getElem?_cons_zero, List.getElem?_cons_succ, dR.eq_20]
            rw [hd] at e5
            exact hg (S.size - (a + runN no10 (c :: r))) ts' m (by omega) (CS.move h1 h2 t0 t4 h6 h7 h8 (by rw [e0]; simp) (by rw [e4]; simp) e5 (by omega) (by omega) (by rw [hc, cutL_cm hnb h35, ← hd, List.drop_drop]))
          · have i35 : ¬ (c.toNat : Int) = 35 := by omega
            have ha1 : a ≤ S.size := by omega
            have ha2 : (a : Int) ≤ (S.size : Int) := by omega
            have hx : (S.extract a S.size).data.toList = S.data.toList.drop a := by
              rw [Lib.extract_eq]
              show List.take _ _ = _
              exact List.take_of_length_le (by simp)
            have hxs : (S.extract a S.size).size = S.size - a := by simp
            simp -implicitDefEqProofs (disch := first | assumption | (simp only [wnA]; done) | (simp only [wnA]; omega) | omega | fail) [wkA, retV, stabOk, dC, ev, fillD, pickCells, putAt, bnd, slD, List.getElem?_cons_zero, List.getElem?_cons_succ, dR.eq_20, Mem.cell, Mem.row, wmA, t0, t5, hlt, ha1, ha2, g1, getOf g1, beqF i35, rc35_3]
            refine c_tone (h2.part hp) ht hE (by omega) (by omega) (fun m1 t o1 hn => ?_) fun m1 t n o1 hn => ?_
            · rw [hx, hd] at hn
              simp -implicitDefEqProofs (disch := first | assumption | (simp only [wnA]; done) | (simp only [wnA]; omega) | omega | fail) [wkA, retV, stabOk, dC, ev, fillD, pickCells, putAt, bnd, slD, List.getElem?_cons_zero, List.getElem?_cons_succ, dR.eq_20, Mem.cell, Mem.row, wmA, Tk.cells]
              refine SK_st (i := m1.next) (o := 0) (by simp [wkA, retV, stabOk, dC, ev, fillD, pickCells, putAt, bnd, slD, List.getElem?_cons_zero, List.getElem?_cons_succ, dR.eq_20]) (e := 87) (by simp -implicitDefEqProofs (disch := first | assumption | (simp only [wnA]; done) | (simp only [wnA]; omega) | omega | fail) [Mem.cell, Mem.row, wmA]; rfl) (by simp) (by simp [wkA, retV, stabOk, dC, ev, fillD, pickCells, putAt, bnd, slD, List.getElem?_cons_zero, List.getElem?_cons_succ, dR.eq_20]) (by simp [wkA, retV, stabOk, dC, ev, fillD, pickCells, putAt, bnd, slD, List.getElem?_cons_zero, List.getElem?_cons_succ, dR.eq_20, oneC]) ?_
              simp -implicitDefEqProofs (disch := first | assumption | (simp only [wnA]; done) | (simp only [wnA]; omega) | omega | fail) [wkA, retV, stabOk, dC, ev, fillD, pickCells, putAt, bnd, slD, List.getElem?_cons_zero, List.getElem?_cons_succ, dR.eq_20, Mem.cell, Mem.row, wmA, t5]
              refine c_Wrap (no := 1) ?_
              simp -implicitDefEqProofs (disch := first | assumption | (simp only [wnA]; done) | (simp only [wnA]; omega) | omega | fail) [wkA, retV, stabOk, dC, ev, fillD, pickCells, putAt, bnd, slD, List.getElem?_cons_zero, List.getElem?_cons_succ, dR.eq_20, Mem.cell, Mem.row, wmA]
              exact he _ _ a (((h2.trans o1).push _).set (by have := h2.1; have := o1.1; omega) _) (by simp) (by simp) (by rw [hc, cutL_none hnb h35 hn]; rfl)
            · rw [hx, hd] at hn
              have hnl := oneL_len hn
              have hdl := congrArg List.length hd
              rw [List.length_drop] at hdl
              have hsz : S.data.toList.length = S.size := by simp
              have n0 : ¬ (n : Int) = 0 := by omega
              simp -implicitDefEqProofs (disch := first | assumption | (simp only [wnA]; done) | (simp only [wnA]; omega) | omega | fail) [wkA, retV, stabOk, dC, ev, fillD, pickCells, putAt, bnd, slD, List.getElem?_cons_zero, List.getElem?_cons_succ, dR.eq_20, Mem.cell, Mem.row, wmA, Tk.cells]
              refine SK_st (i := m1.next) (o := 0) (by simp [wkA, retV, stabOk, dC, ev, fillD, pickCells, putAt, bnd, slD, List.getElem?_cons_zero, List.getElem?_cons_succ, dR.eq_20]) (e := 87) (by simp -implicitDefEqProofs (disch := first | assumption | (simp only [wnA]; done) | (simp only [wnA]; omega) | omega | fail) [Mem.cell, Mem.row, wmA]; rfl) (by simp) (by simp [wkA, retV, stabOk, dC, ev, fillD, pickCells, putAt, bnd, slD, List.getElem?_cons_zero, List.getElem?_cons_succ, dR.eq_20]) (by simp [wkA, retV, stabOk, dC, ev, fillD, pickCells, putAt, bnd, slD, List.getElem?_cons_zero, List.getElem?_cons_succ, dR.eq_20, oneC]) ?_
              simp -implicitDefEqProofs (disch := first | assumption | (simp only [wnA]; done) | (simp only [wnA]; omega) | omega | fail) [wkA, retV, stabOk, dC, ev, fillD, pickCells, putAt, bnd, slD, List.getElem?_cons_zero, List.getElem?_cons_succ, dR.eq_20, Mem.cell, Mem.row, wmA, beqF n0, rc35_2, t5]
              refine SK_st (i := m1.next) (o := 3) (by simp [wkA, retV, stabOk, dC, ev, fillD, pickCells, putAt, bnd, slD, List.getElem?_cons_zero, List.getElem?_cons_succ, dR.eq_20]) (e := 87) (by simp -implicitDefEqProofs (disch := first | assumption | (simp only [wnA]; done) | (simp only [wnA]; omega) | omega | fail) [Mem.cell, Mem.row, wmA]; rfl) (by simp) (by simp [wkA, retV, stabOk, dC, ev, fillD, pickCells, putAt, bnd, slD, List.getElem?_cons_zero, List.getElem?_cons_succ, dR.eq_20]) (by simp [wkA, retV, stabOk, dC, ev, fillD, pickCells, putAt, bnd, slD, List.getElem?_cons_zero, List.getElem?_cons_succ, dR.eq_20, oneC]) ?_
              simp -implicitDefEqProofs (disch := first | assumption | (simp only [wnA]; done) | (simp only [wnA]; omega) | omega | fail) [wkA, retV, stabOk, dC, ev, fillD, pickCells, putAt, bnd, slD, List.getElem?_cons_zero, List.getElem?_cons_succ, dR.eq_20, Mem.cell, Mem.row, wmA, t4]
              rw [SK_bsl (cs := cellP (t, a)) (by simp [wkA, retV, stabOk, dC, ev, fillD, pickCells, putAt, bnd, slD, List.getElem?_cons_zero, List.getElem?_cons_succ, dR.eq_20, cellP, Tk.cells]) (by simp [cellP, Tk.cells, oneC])]
              have h61 : SlO m1 87 4 ob (out.flatMap cellP) out.length := h6.keep (by have := o1.1; omega) fun i hi => o1.2 i (by subst hi; exact h6.lt)
              have hne : ob ≠ some m1.next := fun e => by subst e; have := h61.lt; omega
              have hM := fun E1 E2 E3 => (((h61.push E1).set hne E2).set hne E3)
              have oM := fun E1 E2 E3 => ((((h2.trans o1).push E1).set (show b.next ≤ m1.next by have := h2.1; have := o1.1; omega) E2).set (show b.next ≤ m1.next by have := h2.1; have := o1.1; omega) E3)
              have nM : ∀ E1 E2 E3, (((m1.push E1).set m1.next E2).set m1.next E3).next = m1.next + 1 := fun _ _ _ => rfl
              have w2 : IntKind.i64.wrap ((a : Int) + (n : Int)) = ((a + n : Nat) : Int) := by rw [w64 (by omega)]; omega
              simp -implicitDefEqProofs (disch := first | assumption | (simp only [wnA]; done) | (simp only [wnA]; omega) | omega | fail) [wkA, retV, stabOk, dC, ev, fillD, pickCells, putAt, bnd, slD, List.getElem?_cons_zero, List.getElem?_cons_succ, dR.eq_20, Mem.cell, Mem.row, wmA, t4]
              refine SK_ap (ob := ob) (cs := out.flatMap cellP) (n := out.length) ((hM _ _ _).push _) (by simp [wkA, retV, stabOk, dC, ev, fillD, pickCells, putAt, bnd, slD, List.getElem?_cons_zero, List.getElem?_cons_succ, dR.eq_20, t4]) (ys := cellP (t, a)) (by simp -implicitDefEqProofs (disch := first | assumption | (simp only [wnA]; done) | (simp only [wnA]; omega) | omega | fail) [wkA, retV, stabOk, dC, ev, fillD, pickCells, putAt, bnd, slD, List.getElem?_cons_zero, List.getElem?_cons_succ, dR.eq_20, elemsV, Mem.cell, Mem.row, wmA, cellP, Tk.cells]) (k := 1) (by simp [wkA, retV, stabOk, dC, ev, fillD, pickCells, putAt, bnd, slD, List.getElem?_cons_zero, List.getElem?_cons_succ, dR.eq_20]) (by simp) (by simp [oneC, cellP, Tk.cells]) (by omega) (by simp only [maxLen]; omega) (by simp [cellP, Tk.cells]) ?_
              simp -implicitDefEqProofs (disch := first | assumption | (simp only [wnA]; done) | (simp only [wnA]; omega) | omega | fail) [wkA, retV, stabOk, dC, ev, fillD, pickCells, putAt, bnd, slD, List.getElem?_cons_zero, List.getElem?_cons_succ, dR.eq_20, Mem.cell, Mem.row, wmA, w2, t5]
              refine hg (k - n) _ _ (by omega) ?_
              refine ⟨a + n, out ++ [(t, a)], some (m1.next + 1 + 1), by omega, ((((oM _ _ _).push _).kill h7).push _), by simp [t0], by simp, by simp, ?_, ?_, by simp; omega, ?_⟩
              · have e1 : (out ++ [(t, a)]).flatMap cellP = out.flatMap cellP ++ cellP (t, a) := by simp
                have e2 : (out ++ [(t, a)]).length = out.length + 1 := by simp
                rw [e1, e2]
                exact SlO.new (by rw [List.length_append, hl, cellP_len]; omega)
              · intro i hi
                have := h2.1; have := o1.1
                simp at hi; omega
              · rw [hc, cutL_some hnb h35 hn, preC_pre, ← hd, List.drop_drop]
/-- A text's tokens, or where it has none. -/
theorem c_tCut {w0 : World} {m : Mem} {S : ByteArray} {Q : Value → Mem → Prop} (hp : Part L0 m) (ht : Ten w0) (hE : ErrV w0)
    (hb : 4096 < S.size → ∀ m', Old m m' → Q (.tuple ⟨[.slice none 0 0, faultV 7 0]⟩) m')
    (he : S.size ≤ 4096 → ∀ m' a, Old m m' → cutL 0 S.data.toList = .inl a → Q (.tuple ⟨[.slice none 0 0, faultV 1 a]⟩) m')
    (hq : S.size ≤ 4096 → ∀ m' i us, Old m m' → SlO m' 87 4 (some i) (us.flatMap cellP) us.length → m.next ≤ i → us.length ≤ S.size + 1 → cutL 0 S.data.toList = .inr us → Q (.tuple ⟨[slV (some i) us.length 4, .nilIface]⟩) m') :
    AbC Tryz.prog w0 35 [.string S] m Q := by
  refine AbC_fn ok35 (by simp) ?_
  by_cases hs : 4096 < S.size
  · have his : (4096 : Int) < (S.size : Int) := by omega
    simp -implicitDefEqProofs (disch := first | assumption | (simp only [wnA]; done) | (simp only [wnA]; omega) | omega | fail) [rc35, ro35, wkA, retV, stabOk, dC, ev, fillD, pickCells, putAt, bnd, slD, List.getElem?_cons_zero, List.getElem?_cons_succ, dR.eq_20, Mem.cell, Mem.row, wmA]
    refine JumpW_of (fun _ _ _ _ => False) (fun J hJ => ?_) (fun _ _ _ _ h => h.elim) (fun _ _ _ _ h => h.elim)
    simp -implicitDefEqProofs (disch := first | assumption | (simp only [wnA]; done) | (simp only [wnA]; omega) | omega | fail) [wkA, retV, stabOk, dC, ev, fillD, pickCells, putAt, bnd, slD, List.getElem?_cons_zero, List.getElem?_cons_succ, dR.eq_20, Mem.cell, Mem.row, wmA, gtT his]
    refine c_Wrap (no := 7) (a := 0) ?_
    simp -implicitDefEqProofs (disch := first | assumption | (simp only [wnA]; done) | (simp only [wnA]; omega) | omega | fail) [wkA, retV, stabOk, dC, ev, fillD, pickCells, putAt, bnd, slD, List.getElem?_cons_zero, List.getElem?_cons_succ, dR.eq_20, Mem.cell, Mem.row, wmA]
    exact hb hs m (Old.refl m)
  · have hs' : S.size ≤ 4096 := by omega
    have his : (S.size : Int) ≤ 4096 := by omega
    have r0 : ∀ (ts' : Fr) m' (a : Nat), Old m m' → ts' 2 = .slice none 0 0 → ts' 3 = faultV 1 a → cutL 0 S.data.toList = .inl a → bodyA ro35 Q .ret ts' m' := fun ts' m' a o e2 e3 hn => by
      simp -implicitDefEqProofs (disch := first | assumption | (simp only [wnA]; done) | (simp only [wnA]; omega) | omega | fail) [ro35, wkA, retV, stabOk, dC, ev, fillD, pickCells, putAt, bnd, slD, List.getElem?_cons_zero, List.getElem?_cons_succ, dR.eq_20, Mem.cell, Mem.row, wmA, e2, e3]
      exact he hs' m' a o hn
    have r1 : ∀ (ts' : Fr) m' i us, Old m m' → ts' 2 = slV (some i) us.length 4 → ts' 3 = .nilIface → SlO m' 87 4 (some i) (us.flatMap cellP) us.length → m.next ≤ i → us.length ≤ S.size + 1 → cutL 0 S.data.toList = .inr us → bodyA ro35 Q .ret ts' m' := fun ts' m' i us o e2 e3 h1 h2 h3 hn => by
      simp -implicitDefEqProofs (disch := first | assumption | (simp only [wnA]; done) | (simp only [wnA]; omega) | omega | fail) [ro35, wkA, retV, stabOk, dC, ev, fillD, pickCells, putAt, bnd, slD, List.getElem?_cons_zero, List.getElem?_cons_succ, dR.eq_20, Mem.cell, Mem.row, wmA, e2, e3]
      exact hq hs' m' i us o h1 h2 h3 hn
    simp only [ro35] at r0 r1
    simp -implicitDefEqProofs (disch := first | assumption | (simp only [wnA]; done) | (simp only [wnA]; omega) | omega | fail) [rc35, ro35, wkA, retV, stabOk, dC, ev, fillD, pickCells, putAt, bnd, slD, List.getElem?_cons_zero, List.getElem?_cons_succ, dR.eq_20, Mem.cell, Mem.row, wmA]
    refine JumpW_of (fun x k ts m' => CS S m k ts m') (fun J hJ => ?_) (fun k ts m' J hst hJ => ?_) (fun k ts m' J hst hJ => ?_)
    · simp -implicitDefEqProofs (disch := first | assumption | (simp only [wnA]; done) | (simp only [wnA]; omega) | omega | fail) [wkA, retV, stabOk, dC, ev, fillD, pickCells, putAt, bnd, slD, List.getElem?_cons_zero, List.getElem?_cons_succ, dR.eq_20, Mem.cell, Mem.row, wmA, gtF his, rc35_7]
      refine w_cut hp ht hE hs' (k := S.size) ⟨0, [], none, by omega, Old.refl m, by simp [frA_at], by simp [slV], by simp, ⟨rfl, rfl⟩, (fun i hi => by cases hi), Nat.le_refl _, by rw [preC_nil]; rfl⟩ (fun k' ts' m' _ hst => ?_) (fun ts' m' a o e2 e3 hn => ?_) fun ts' m' i us o e2 e3 h1 h2 h3 hn => ?_
      · simp -implicitDefEqProofs (disch := first | assumption | (simp only [wnA]; done) | (simp only [wnA]; omega) | omega | fail) [wkA, retV, stabOk, dC, ev, fillD, pickCells, putAt, bnd, slD, List.getElem?_cons_zero, List.getElem?_cons_succ, dR.eq_20]
        exact .inl (hJ false k' ts' m' hst)
      · simp -implicitDefEqProofs (disch := first | assumption | (simp only [wnA]; done) | (simp only [wnA]; omega) | omega | fail) [wkA, retV, stabOk, dC, ev, fillD, pickCells, putAt, bnd, slD, List.getElem?_cons_zero, List.getElem?_cons_succ, dR.eq_20] at r0 ⊢
        exact r0 ts' m' a o e2 e3 hn
      · simp -implicitDefEqProofs (disch := first | assumption | (simp only [wnA]; done) | (simp only [wnA]; omega) | omega | fail) [wkA, retV, stabOk, dC, ev, fillD, pickCells, putAt, bnd, slD, List.getElem?_cons_zero, List.getElem?_cons_succ, dR.eq_20] at r1 ⊢
        exact r1 ts' m' i us o e2 e3 h1 h2 h3 hn
    · simp -implicitDefEqProofs (disch := first | assumption | (simp only [wnA]; done) | (simp only [wnA]; omega) | omega | fail) [wkA, retV, stabOk, dC, ev, fillD, pickCells, putAt, bnd, slD, List.getElem?_cons_zero, List.getElem?_cons_succ, dR.eq_20, Mem.cell, Mem.row, wmA, rc35_8]
      refine w_cut hp ht hE hs' hst (fun k' ts' m' hk hst => ?_) (fun ts' m' a o e2 e3 hn => ?_) fun ts' m' i us o e2 e3 h1 h2 h3 hn => ?_
      · simp -implicitDefEqProofs (disch := first | assumption | (simp only [wnA]; done) | (simp only [wnA]; omega) | omega | fail) [wkA, retV, stabOk, dC, ev, fillD, pickCells, putAt, bnd, slD, List.getElem?_cons_zero, List.getElem?_cons_succ, dR.eq_20]
        exact .inl (hJ false k' ts' m' hk hst)
      · simp -implicitDefEqProofs (disch := first | assumption | (simp only [wnA]; done) | (simp only [wnA]; omega) | omega | fail) [wkA, retV, stabOk, dC, ev, fillD, pickCells, putAt, bnd, slD, List.getElem?_cons_zero, List.getElem?_cons_succ, dR.eq_20] at r0 ⊢
        exact r0 ts' m' a o e2 e3 hn
      · simp -implicitDefEqProofs (disch := first | assumption | (simp only [wnA]; done) | (simp only [wnA]; omega) | omega | fail) [wkA, retV, stabOk, dC, ev, fillD, pickCells, putAt, bnd, slD, List.getElem?_cons_zero, List.getElem?_cons_succ, dR.eq_20] at r1 ⊢
        exact r1 ts' m' i us o e2 e3 h1 h2 h3 hn
    · simp -implicitDefEqProofs (disch := first | assumption | (simp only [wnA]; done) | (simp only [wnA]; omega) | omega | fail) [wkA, retV, stabOk, dC, ev, fillD, pickCells, putAt, bnd, slD, List.getElem?_cons_zero, List.getElem?_cons_succ, dR.eq_20, Mem.cell, Mem.row, wmA, rc35_8]
      refine w_cut hp ht hE hs' hst (fun k' ts' m' hk hst => ?_) (fun ts' m' a o e2 e3 hn => ?_) fun ts' m' i us o e2 e3 h1 h2 h3 hn => ?_
      · simp -implicitDefEqProofs (disch := first | assumption | (simp only [wnA]; done) | (simp only [wnA]; omega) | omega | fail) [wkA, retV, stabOk, dC, ev, fillD, pickCells, putAt, bnd, slD, List.getElem?_cons_zero, List.getElem?_cons_succ, dR.eq_20]
        exact .inl (hJ false k' ts' m' hk hst)
      · simp -implicitDefEqProofs (disch := first | assumption | (simp only [wnA]; done) | (simp only [wnA]; omega) | omega | fail) [wkA, retV, stabOk, dC, ev, fillD, pickCells, putAt, bnd, slD, List.getElem?_cons_zero, List.getElem?_cons_succ, dR.eq_20] at r0 ⊢
        exact r0 ts' m' a o e2 e3 hn
      · simp -implicitDefEqProofs (disch := first | assumption | (simp only [wnA]; done) | (simp only [wnA]; omega) | omega | fail) [wkA, retV, stabOk, dC, ev, fillD, pickCells, putAt, bnd, slD, List.getElem?_cons_zero, List.getElem?_cons_succ, dR.eq_20] at r1 ⊢
        exact r1 ts' m' i us o e2 e3 h1 h2 h3 hn
end Go.Proofs.YtjlicambfepfiaaGreatDoor.Ab

set_option linter.unusedVariables false
set_option linter.unusedSimpArgs false
namespace Go.Proofs.YtjlicambfepfiaaGreatDoor.Ab
open Go Go.RowKit

/-! Places. -/
def PlL (L : List UInt8) : Int → List (Tk × Nat) → Prop
  | _, [] => True
  | pr, p :: us => (p.1.kd ≠ 0 → pr < (p.2 : Int)) ∧ pr ≤ (p.2 : Int) ∧ p.2 ≤ L.length ∧ (p.1.kd ≠ 3 → p.2 + p.1.tx.length ≤ L.length ∧ (L.drop p.2).take p.1.tx.length = p.1.tx) ∧ PlL L (p.2 : Int) us
theorem oneL_text {l : List UInt8} {t : Tk} {n : Nat} (h : oneL l = some (t, n)) : t.kd ≠ 0 ∧ (t.kd ≠ 3 → t.tx.length ≤ l.length ∧ l.take t.tx.length = t.tx) := by
  cases l with
  | nil => simp [oneL] at h
  | cons c r =>
    have tk : ∀ k : Nat, ((c :: r).take k).length ≤ (c :: r).length ∧ (c :: r).take ((c :: r).take k).length = (c :: r).take k := fun k => by
      rw [List.length_take]
      refine ⟨by omega, ?_⟩
      rw [List.take_eq_take_iff]
      omega
    simp only [oneL] at h
    split at h
    · simp only [Option.some.injEq, Prod.mk.injEq] at h
      obtain ⟨rfl, rfl⟩ := h
      exact ⟨by show (1 : Int) ≠ 0; decide, fun _ => tk _⟩
    · split at h
      · cases hv : numV (c :: r) with
        | none => simp [hv] at h
        | some v =>
          simp only [hv, Option.map_some, Option.some.injEq, Prod.mk.injEq] at h
          obtain ⟨rfl, rfl⟩ := h
          exact ⟨by show (2 : Int) ≠ 0; decide, fun _ => tk _⟩
      · split at h
        · cases hq : qd r with
          | none => simp [hq] at h
          | some p =>
            simp only [hq, Option.map_some, Option.some.injEq, Prod.mk.injEq] at h
            obtain ⟨rfl, rfl⟩ := h
            exact ⟨by show (3 : Int) ≠ 0; decide, fun h => absurd rfl h⟩
        · split at h
          · simp only [Option.some.injEq, Prod.mk.injEq] at h
            obtain ⟨rfl, rfl⟩ := h
            exact ⟨by show (4 : Int) ≠ 0; decide, fun _ => tk 1⟩
          · cases h
theorem cut_places (L : List UInt8) : ∀ (k a : Nat), L.length - a ≤ k → a ≤ L.length → (∀ e, cutL a (L.drop a) = .inl e → e ≤ L.length) ∧ (∀ us, cutL a (L.drop a) = .inr us → (∀ pr : Int, pr < (a : Int) → PlL L pr us) ∧ ∃ i, us = i ++ [(endT, L.length)])
  | k, a, hk, ha => by
    rcases hd : L.drop a with _ | ⟨c, r⟩
    · have hla : L.length = a := by
        have := congrArg List.length hd
        rw [List.length_drop] at this
        simp at this; omega
      rw [cutL_nil]
      refine ⟨fun e h => (by cases h), fun us h => ?_⟩
      cases h
      refine ⟨fun pr hpr => ?_, [], by rw [hla]; rfl⟩
      refine ⟨fun h => by simp [endT] at h, by omega, by omega, fun _ => ⟨by simp [endT]; omega, by simp [endT]⟩, trivial⟩
    · have hl := congrArg List.length hd
      rw [List.length_drop] at hl
      simp only [List.length_cons] at hl
      obtain ⟨k, rfl⟩ : ∃ k', k = k' + 1 := ⟨k - 1, by omega⟩
      have hr : L.drop (a + 1) = r := by
        have := congrArg (List.drop 1) hd
        rw [List.drop_drop] at this
        simpa using this
      cases hb : isBl c with
      | true =>
        rw [cutL_bl hb, ← hr]
        obtain ⟨i1, i2⟩ := cut_places L k (a + 1) (by omega) (by omega)
        exact ⟨i1, fun us h => ⟨fun pr hpr => (i2 us h).1 pr (by omega), (i2 us h).2⟩⟩
      | false =>
        by_cases h35 : c.toNat = 35
        · have h1 := run_cm (r := r) h35
          have h2 := runN_le no10 (c :: r)
          simp only [List.length_cons] at h2
          rw [cutL_cm hb h35, ← hd, List.drop_drop]
          rw [← hd] at h1 h2
          obtain ⟨i1, i2⟩ := cut_places L k (a + runN no10 (L.drop a)) (by omega) (by omega)
          exact ⟨i1, fun us h => ⟨fun pr hpr => (i2 us h).1 pr (by omega), (i2 us h).2⟩⟩
        · cases ho : oneL (c :: r) with
          | none =>
            rw [cutL_none hb h35 ho]
            exact ⟨fun e h => (by cases h; exact ha), fun us h => by cases h⟩
          | some q =>
            obtain ⟨t, n⟩ := q
            obtain ⟨n1, n2⟩ := oneL_len ho
            obtain ⟨x1, x2⟩ := oneL_text ho
            simp only [List.length_cons] at n2
            rw [cutL_some hb h35 ho, ← hd, List.drop_drop]
            obtain ⟨i1, i2⟩ := cut_places L k (a + n) (by omega) (by omega)
            refine ⟨fun e h => ?_, fun us h => ?_⟩
            · cases hc : cutL (a + n) (L.drop (a + n)) with
              | inl e' =>
                rw [hc] at h
                simp only [preC, Sum.inl.injEq] at h
                subst h
                exact i1 _ hc
              | inr vs => rw [hc] at h; cases h
            · cases hc : cutL (a + n) (L.drop (a + n)) with
              | inl e' => rw [hc] at h; cases h
              | inr vs =>
                rw [hc] at h
                simp only [preC, Sum.inr.injEq] at h
                subst h
                obtain ⟨j1, i, j2⟩ := i2 _ hc
                refine ⟨fun pr hpr => ⟨fun _ => hpr, by omega, by omega, fun hk => ?_, j1 _ (by omega)⟩, (t, a) :: i, by rw [j2]; rfl⟩
                obtain ⟨y1, y2⟩ := x2 hk
                simp only [List.length_cons] at y1
                exact ⟨by show a + t.tx.length ≤ L.length; omega, by show (L.drop a).take t.tx.length = t.tx; rw [hd]; exact y2⟩

/-! Two texts, one behind the other. -/
def shC (d : Nat) : Cuts → Cuts
  | .inl e => .inl (e + d)
  | .inr us => .inr (us.map fun p => (p.1, p.2 + d))
theorem shC_pre (d : Nat) (us : List (Tk × Nat)) (c : Cuts) : shC d (preC us c) = preC (us.map fun p => (p.1, p.2 + d)) (shC d c) := by
  cases c <;> simp [shC, preC]
theorem cutL_shift (d : Nat) : ∀ (k a : Nat) (l : List UInt8), l.length ≤ k → cutL (a + d) l = shC d (cutL a l)
  | _, a, [], _ => rfl
  | 0, a, _ :: _, h => by simp at h
  | k + 1, a, c :: r, h => by
    simp only [List.length_cons] at h
    cases hb : isBl c with
    | true => rw [cutL_bl hb, cutL_bl hb, ← cutL_shift d k (a + 1) r (by omega), Nat.add_right_comm]
    | false =>
      by_cases h35 : c.toNat = 35
      · have h1 := run_cm (r := r) h35
        rw [cutL_cm hb h35, cutL_cm hb h35, ← cutL_shift d k _ _ (by rw [List.length_drop]; simp; omega), Nat.add_right_comm]
      · cases ho : oneL (c :: r) with
        | none => rw [cutL_none hb h35 ho, cutL_none hb h35 ho]; rfl
        | some q =>
          obtain ⟨t, n⟩ := q
          obtain ⟨n1, n2⟩ := oneL_len ho
          rw [cutL_some hb h35 ho, cutL_some hb h35 ho, shC_pre, ← cutL_shift d k _ _ (by rw [List.length_drop]; simp; omega), Nat.add_right_comm]
          rfl
theorem wordN_lf (y : List UInt8) : ∀ (b : Bool) (x : List UInt8), wordN b (x ++ 10 :: y) = wordN b x
  | b, [] => by
    have : wq b 10 = false := by cases b <;> rfl
    simp [wordN, this]
  | b, c :: r => by
    simp only [List.cons_append, wordN, wordN_lf y true r]
theorem runN_lf {p : UInt8 → Bool} (hp : p 10 = false) (y : List UInt8) : ∀ x : List UInt8, runN p (x ++ 10 :: y) = runN p x
  | [] => by simp [runN, hp]
  | c :: r => by simp only [List.cons_append, runN, runN_lf hp y r]
theorem hexH_lf (y : List UInt8) : ∀ x : List UInt8, x ≠ [] → hexH (x ++ 10 :: y) = hexH x
  | [], h => absurd rfl h
  | [a], _ => by simp [hexH]
  | a :: b :: r, _ => rfl
theorem inB_lf (B : Nat) : inB B 10 = false := by simp [inB, isDig, isHx]
theorem num_lf {x : List UInt8} (y : List UInt8) (h : x ≠ []) : nB (x ++ 10 :: y) = nB x ∧ nF (x ++ 10 :: y) = nF x ∧ nN (x ++ 10 :: y) = nN x ∧ nDs (x ++ 10 :: y) = nDs x ∧ numV (x ++ 10 :: y) = numV x := by
  have hB : nB (x ++ 10 :: y) = nB x := by simp only [nB, hexH_lf y x h]
  have hF : nF (x ++ 10 :: y) = nF x := by simp only [nF, hexH_lf y x h]
  have hN : nN (x ++ 10 :: y) = nN x := by
    unfold nN
    rw [hB, hF, List.drop_append_of_le_length (nF_le x), runN_lf (inB_lf _)]
  have hD : nDs (x ++ 10 :: y) = nDs x := by
    unfold nDs
    rw [hN, hF, List.take_append_of_le_length (nN_le x)]
  refine ⟨hB, hF, hN, hD, ?_⟩
  unfold numV
  rw [hB, hD, hN, List.drop_append_of_le_length (nN_le x), wordN_lf]
theorem qd_lf (y : List UInt8) : ∀ x : List UInt8, qd (x ++ 10 :: y) = qd x
  | [] => by
    cases y <;> simp [qd]
  | [c] => by
    have h10 : qd (10 :: y) = none := by cases y <;> simp [qd]
    have he : escD 10 = none := rfl
    show qd (c :: 10 :: y) = qd [c]
    simp only [qd, h10, he]
    split
    · rfl
    · split
      · rfl
      · split <;> rfl
  | c :: e :: r => by
    have h1 := qd_lf y r
    have h2 := qd_lf y (e :: r)
    show qd (c :: e :: (r ++ 10 :: y)) = qd (c :: e :: r)
    simp only [qd, h1]
    rw [show qd (e :: (r ++ 10 :: y)) = qd (e :: r) from h2]
theorem oneL_lf {x : List UInt8} (y : List UInt8) (h : x ≠ []) : oneL (x ++ 10 :: y) = oneL x := by
  match x, h with
  | c :: r, h =>
    obtain ⟨-, -, hN, -, hV⟩ := num_lf y h
    have hw := wordN_lf y false (c :: r)
    have hq := qd_lf y r
    have t1 := List.take_append_of_le_length (l₂ := 10 :: y) (wordN_le false (c :: r))
    have t2 := List.take_append_of_le_length (l₂ := 10 :: y) (nN_le (c :: r))
    simp only [List.cons_append] at hN hV hw t1 t2 ⊢
    simp only [oneL, hw, hN, hV, hq, t1, t2]
theorem cut_lf (y : List UInt8) : ∀ (k a : Nat) (x : List UInt8), x.length ≤ k → (∀ e, cutL a x = .inl e → cutL a (x ++ 10 :: y) = .inl e) ∧ (∀ us, cutL a x = .inr us → ∃ i, us = i ++ [(endT, a + x.length)] ∧ cutL a (x ++ 10 :: y) = preC i (cutL (a + x.length + 1) y))
  | _, a, [], _ => by
    refine ⟨fun e h => (by cases h), fun us h => ?_⟩
    cases h
    refine ⟨[], rfl, ?_⟩
    rw [preC_nil]
    exact cutL_bl rfl
  | 0, a, _ :: _, h => by simp at h
  | k + 1, a, c :: r, h => by
    simp only [List.length_cons] at h
    cases hb : isBl c with
    | true =>
      obtain ⟨i1, i2⟩ := cut_lf y k (a + 1) r (by omega)
      rw [List.cons_append, cutL_bl hb, cutL_bl hb]
      refine ⟨i1, fun us hu => ?_⟩
      obtain ⟨i, e1, e2⟩ := i2 us hu
      refine ⟨i, ?_, ?_⟩
      · rw [e1]; simp; omega
      · rw [e2]; simp only [List.length_cons]; congr 2; omega
    | false =>
      by_cases h35 : c.toNat = 35
      · have h1 := run_cm (r := r) h35
        have h2 := runN_le no10 (c :: r)
        have hr := runN_lf (p := no10) rfl y (c :: r)
        rw [List.cons_append] at hr ⊢
        rw [cutL_cm hb h35, cutL_cm hb h35, hr, ← List.cons_append, List.drop_append_of_le_length h2]
        obtain ⟨i1, i2⟩ := cut_lf y k (a + runN no10 (c :: r)) ((c :: r).drop (runN no10 (c :: r))) (by rw [List.length_drop]; simp; omega)
        refine ⟨i1, fun us hu => ?_⟩
        obtain ⟨i, e1, e2⟩ := i2 us hu
        have hl : a + runN no10 (c :: r) + ((c :: r).drop (runN no10 (c :: r))).length = a + (c :: r).length := by rw [List.length_drop]; omega
        rw [hl] at e1 e2
        exact ⟨i, e1, e2⟩
      · have hol := oneL_lf y (x := c :: r) (by simp)
        rw [List.cons_append] at hol ⊢
        cases ho : oneL (c :: r) with
        | none =>
          rw [ho] at hol
          rw [cutL_none hb h35 ho, cutL_none hb h35 hol]
          exact ⟨fun e h => h, fun us h => by cases h⟩
        | some q =>
          obtain ⟨t, n⟩ := q
          rw [ho] at hol
          obtain ⟨n1, n2⟩ := oneL_len ho
          rw [cutL_some hb h35 ho, cutL_some hb h35 hol, ← List.cons_append, List.drop_append_of_le_length n2]
          obtain ⟨i1, i2⟩ := cut_lf y k (a + n) ((c :: r).drop n) (by rw [List.length_drop]; simp; omega)
          have hl : a + n + ((c :: r).drop n).length = a + (c :: r).length := by rw [List.length_drop]; omega
          rw [hl] at i2
          cases hc : cutL (a + n) ((c :: r).drop n) with
          | inl e' =>
            refine ⟨fun e h => ?_, fun us h => by cases h⟩
            rw [i1 e' hc]
            exact h
          | inr vs =>
            refine ⟨fun e h => (by cases h), fun us h => ?_⟩
            simp only [preC, Sum.inr.injEq] at h
            subst h
            obtain ⟨i, e1, e2⟩ := i2 vs hc
            exact ⟨(t, a) :: i, by rw [e1]; rfl, by rw [e2, preC_pre]; rfl⟩
end Go.Proofs.YtjlicambfepfiaaGreatDoor.Ab

set_option linter.unusedVariables false
set_option linter.unusedSimpArgs false
namespace Go.Proofs.YtjlicambfepfiaaGreatDoor.Ab
open Go Go.RowKit
set_option maxRecDepth 100000

/-- A name in quotes. -/
def qL (l : List UInt8) : List UInt8 := match escL l with
  | some e => 34 :: (e ++ [34])
  | none => []
theorem quoteV_eq (l : List UInt8) : quoteV l = .tuple ⟨[.string ⟨⟨qL l⟩⟩, .bool (escL l).isSome]⟩ := by
  unfold quoteV qL
  split <;> rename_i h <;> simp [h]
theorem qL_len (l : List UInt8) : (qL l).length ≤ 2 * l.length + 2 := by
  unfold qL
  split
  · rename_i e h; have := escL_len h; simp; omega
  · simp

/-! Names in quotes. -/
def StrOk (t : List UInt8) : Prop := ∃ e, escL t = some e ∧ ∀ r, qd (e ++ 34 :: r) = some (e.length + 1, t)
theorem strOk_nil : StrOk [] := ⟨[], rfl, fun r => qd_q rfl⟩
theorem esc_round {c : UInt8} {a : List UInt8} (h : escC c = some a) {X : List UInt8} {n : Nat} {t : List UInt8} (hX : qd X = some (n, t)) : qd (a ++ X) = some (n + a.length, c :: t) := by
  unfold escC at h
  split at h
  · rename_i hc
    have : c = 13 := UInt8.toNat_inj.1 hc
    subst this
    cases h
    show qd (92 :: 114 :: X) = _
    rw [qd_e2 rfl (show escD 114 = some 13 from rfl), hX]
    rfl
  · split at h
    · rename_i hc
      have : c = 10 := UInt8.toNat_inj.1 hc
      subst this
      cases h
      show qd (92 :: 110 :: X) = _
      rw [qd_e2 rfl (show escD 110 = some 10 from rfl), hX]
      rfl
    · split at h
      · cases h
      · rename_i hr
        split at h
        · rename_i hc
          cases h
          show qd (92 :: c :: X) = _
          have hd : escD c = some c := by
            rcases hc with hc | hc
            · have : c = 34 := UInt8.toNat_inj.1 hc
              subst this; rfl
            · have : c = 92 := UInt8.toNat_inj.1 hc
              subst this; rfl
          rw [qd_e2 rfl hd, hX]
          rfl
        · rename_i hc
          cases h
          show qd (c :: X) = _
          rw [qd_ch hr (fun e => hc (.inl e)) (fun e => hc (.inr e)), hX]
          rfl
theorem strOk_cons {c : UInt8} {t : List UInt8} (hc : (escC c).isSome = true) (ht : StrOk t) : StrOk (c :: t) := by
  obtain ⟨a, ha⟩ := Option.isSome_iff_exists.1 hc
  obtain ⟨e, he, hq⟩ := ht
  refine ⟨a ++ e, by simp [escL, ha, he], fun r => ?_⟩
  rw [List.append_assoc, esc_round ha (hq r), List.length_append]
  congr 2
  omega
theorem esc_x {e x : UInt8} (h : escD e = some x) : (escC x).isSome = true := by
  unfold escD at h
  split at h
  · cases h; rfl
  · split at h
    · cases h; rfl
    · split at h
      · cases h; rfl
      · split at h
        · cases h; rfl
        · cases h
theorem esc_c {c : UInt8} (h : ¬ (c.toNat < 32 ∨ 126 < c.toNat)) : (escC c).isSome = true := by
  unfold escC
  rw [if_neg (by omega), if_neg (by omega), if_neg h]
  split <;> rfl
theorem qd_ok : ∀ {l : List UInt8} {n : Nat} {t : List UInt8}, qd l = some (n, t) → StrOk t ∧ t.length ≤ n
  | [], _, _, h => by simp [qd] at h
  | [c], n, t, h => by
    simp only [qd] at h
    split at h
    · cases h; exact ⟨strOk_nil, by simp⟩
    · cases h
  | c :: e :: r, n, t, h => by
    simp only [qd] at h
    split at h
    · cases h; exact ⟨strOk_nil, by simp⟩
    · split at h
      · cases h
      · rename_i hr
        split at h
        · split at h
          · rename_i x hx
            cases hq : qd r with
            | none => simp [hq] at h
            | some p =>
              simp only [hq, Option.map_some, Option.some.injEq, Prod.mk.injEq] at h
              obtain ⟨rfl, rfl⟩ := h
              have := qd_ok (n := p.1) (t := p.2) hq
              exact ⟨strOk_cons (esc_x hx) this.1, by have := this.2; simp; omega⟩
          · cases h
        · cases hq : qd (e :: r) with
          | none => simp [hq] at h
          | some p =>
            simp only [hq, Option.map_some, Option.some.injEq, Prod.mk.injEq] at h
            obtain ⟨rfl, rfl⟩ := h
            have := qd_ok (n := p.1) (t := p.2) hq
            exact ⟨strOk_cons (esc_c hr) this.1, by have := this.2; simp; omega⟩

/-! What tokens hold. -/
def TkOk (N : Nat) (t : Tk) : Prop := (t.kd = 2 → 0 ≤ t.vl ∧ t.vl ≤ 4294967295) ∧ (t.kd = 3 → StrOk t.tx) ∧ t.tx.length ≤ N
theorem numV_le {l : List UInt8} {v : Nat} (h : numV l = some v) : v ≤ 4294967295 := by
  unfold numV at h
  split at h
  · rename_i w hw
    split at h
    · cases h
      exact puL_le _ _ _ (by omega) hw
    · cases h
  · cases h
theorem oneL_ok {l : List UInt8} {t : Tk} {n : Nat} (h : oneL l = some (t, n)) : TkOk l.length t := by
  cases l with
  | nil => simp [oneL] at h
  | cons c r =>
    have tk : ∀ k : Nat, ((c :: r).take k).length ≤ (c :: r).length := fun k => by rw [List.length_take]; omega
    simp only [oneL] at h
    split at h
    · simp only [Option.some.injEq, Prod.mk.injEq] at h
      obtain ⟨rfl, rfl⟩ := h
      exact ⟨(fun h => absurd (show (1 : Int) = 2 from h) (by decide)), (fun h => absurd (show (1 : Int) = 3 from h) (by decide)), tk _⟩
    · split at h
      · cases hv : numV (c :: r) with
        | none => simp [hv] at h
        | some v =>
          simp only [hv, Option.map_some, Option.some.injEq, Prod.mk.injEq] at h
          obtain ⟨rfl, rfl⟩ := h
          have := numV_le hv
          exact ⟨(fun _ => by show (0 : Int) ≤ (v : Int) ∧ (v : Int) ≤ 4294967295; omega), (fun h => absurd (show (2 : Int) = 3 from h) (by decide)), tk _⟩
      · split at h
        · cases hq : qd r with
          | none => simp [hq] at h
          | some p =>
            simp only [hq, Option.map_some, Option.some.injEq, Prod.mk.injEq] at h
            obtain ⟨rfl, rfl⟩ := h
            have h1 := qd_ok (n := p.1) (t := p.2) hq
            have h2 := qd_len (n := p.1) (t := p.2) hq
            exact ⟨(fun h => absurd (show (3 : Int) = 2 from h) (by decide)), (fun _ => h1.1), by show p.2.length ≤ r.length + 1; omega⟩
        · split at h
          · simp only [Option.some.injEq, Prod.mk.injEq] at h
            obtain ⟨rfl, rfl⟩ := h
            exact ⟨(fun h => absurd (show (4 : Int) = 2 from h) (by decide)), (fun h => absurd (show (4 : Int) = 3 from h) (by decide)), by simp⟩
          · cases h
theorem endT_ok (N : Nat) : TkOk N endT := ⟨(fun h => absurd (show (0 : Int) = 2 from h) (by decide)), (fun h => absurd (show (0 : Int) = 3 from h) (by decide)), by simp [endT]⟩
theorem TkOk.mono {N M : Nat} {t : Tk} (h : TkOk N t) (hNM : N ≤ M) : TkOk M t := ⟨h.1, h.2.1, Nat.le_trans h.2.2 hNM⟩
theorem preC_inr {ts us : List (Tk × Nat)} {c : Cuts} (h : preC ts c = .inr us) : ∃ vs, c = .inr vs ∧ us = ts ++ vs := by
  cases c with
  | inl e => cases h
  | inr vs => cases h; exact ⟨vs, rfl, rfl⟩
theorem cutF_ok (N : Nat) : ∀ (k a : Nat) (l : List UInt8) (us : List (Tk × Nat)), l.length ≤ N → cutF k a l = .inr us → ∀ p ∈ us, TkOk N p.1
  | 0, a, l, us, hl, h => by cases h; intro p hp; simp at hp; subst hp; exact endT_ok N
  | k + 1, a, [], us, hl, h => by cases h; intro p hp; simp at hp; subst hp; exact endT_ok N
  | k + 1, a, c :: r, us, hl, h => by
    simp only [cutF] at h
    have hl' : r.length + 1 ≤ N := hl
    split at h
    · exact cutF_ok N k _ r us (by omega) h
    · split at h
      · exact cutF_ok N k _ _ us (by rw [List.length_drop]; simp; omega) h
      · split at h
        · cases h
        · rename_i t n ho
          obtain ⟨vs, hv, rfl⟩ := preC_inr h
          intro p hp
          rcases List.mem_append.1 hp with hp | hp
          · simp at hp; subst hp
            exact (oneL_ok ho).mono hl
          · exact cutF_ok N k _ _ vs (by rw [List.length_drop]; simp; omega) hv p hp
theorem PlL_at {L : List UInt8} : ∀ {us : List (Tk × Nat)} {pr : Int}, PlL L pr us → ∀ p ∈ us, p.2 ≤ L.length
  | [], _, _, p, hp => by cases hp
  | q :: us, pr, h, p, hp => by
    obtain ⟨-, -, h3, -, h5⟩ := h
    rcases List.mem_cons.1 hp with rfl | hp
    · exact h3
    · exact PlL_at h5 p hp
end Go.Proofs.YtjlicambfepfiaaGreatDoor.Ab

set_option linter.unusedVariables false
set_option linter.unusedSimpArgs false
namespace Go.Proofs.YtjlicambfepfiaaGreatDoor.Ab
open Go Go.RowKit

/-! Numbers. -/
theorem inB_digC16 : ∀ d : Fin 16, inB 16 (digC d.val) = true := by decide +kernel
theorem inB_digC10 : ∀ d : Fin 10, inB 10 (digC d.val) = true := by decide +kernel
theorem digs_all {B : Nat} {p : UInt8 → Bool} (hB : 2 ≤ B) (h : ∀ d, d < B → p (digC d) = true) : ∀ n, ∀ c ∈ digs B n, p c = true := by
  intro n
  induction n using Nat.strongRecOn with
  | _ n ih =>
    intro c hc
    by_cases hn : n < B
    · rw [digs_lt hn] at hc
      simp at hc; subst hc
      exact h n hn
    · have h1 : n / B < n := Nat.div_lt_self (by omega) (by omega)
      rw [digs_ge (by omega) (by omega), List.mem_append] at hc
      rcases hc with hc | hc
      · exact ih _ h1 c hc
      · simp at hc; subst hc
        exact h _ (Nat.mod_lt _ (by omega))
theorem digs10_all (n : Nat) : ∀ c ∈ digs 10 n, isDig c = true := by
  intro c hc
  have := digs_all (B := 10) (p := inB 10) (by omega) (fun d hd => inB_digC10 ⟨d, hd⟩) n c hc
  simpa [inB] using this
theorem digs16_all (n : Nat) : ∀ c ∈ digs 16 n, inB 16 c = true := digs_all (B := 16) (p := inB 16) (by omega) (fun d hd => inB_digC16 ⟨d, hd⟩) n
theorem runN_all {p : UInt8 → Bool} : ∀ {l : List UInt8}, (∀ c ∈ l, p c = true) → runN p l = l.length
  | [], _ => rfl
  | c :: l, h => by
    simp only [runN, h c (by simp), if_true, List.length_cons]
    rw [runN_all fun c hc => h c (by simp [hc])]
theorem digC_48 : ∀ d : Fin 36, d.val ≠ 0 → digC d.val ≠ 48 := by decide +kernel
theorem digs_first {B : Nat} (hB : 2 ≤ B ∧ B ≤ 36) : ∀ n, 1 ≤ n → ∃ c r, digs B n = c :: r ∧ c ≠ 48 := by
  intro n
  induction n using Nat.strongRecOn with
  | _ n ih =>
    intro hn
    by_cases h : n < B
    · exact ⟨_, [], digs_lt h, digC_48 ⟨n, by omega⟩ (by simp; omega)⟩
    · have h1 : n / B < n := Nat.div_lt_self (by omega) (by omega)
      have h2 : 1 ≤ n / B := (Nat.one_le_div_iff (by omega)).2 (by omega)
      obtain ⟨c, r, e, hc⟩ := ih _ h1 h2
      exact ⟨c, r ++ [digC (n % B)], by rw [digs_ge (by omega) (by omega), e]; rfl, hc⟩
theorem dig_facts {c : UInt8} (h : isDig c = true) : isLet c = false ∧ isBl c = false ∧ c.toNat ≠ 35 ∧ c.toNat ≠ 120 := by
  simp only [isDig, Bool.and_eq_true, decide_eq_true_eq] at h
  refine ⟨?_, ?_, by omega, by omega⟩
  · simp only [isLet, Bool.and_eq_false_iff, decide_eq_false_iff_not]; omega
  · simp only [isBl, Bool.or_eq_false_iff, beq_eq_false_iff_ne]; omega
theorem hexH_dig {l : List UInt8} (h : ∀ c ∈ l, isDig c = true) : hexH l = false := by
  match l, h with
  | [], _ => rfl
  | [_], _ => rfl
  | a :: b :: r, h =>
    have := (dig_facts (h b (by simp))).2.2.2
    simp [hexH, this]
/-- A text of digits. -/
theorem dig_shape {l : List UInt8} (h : ∀ c ∈ l, isDig c = true) : nB l = 10 ∧ nF l = 0 ∧ nN l = l.length ∧ nDs l = l := by
  have hh := hexH_dig h
  have hB : nB l = 10 := by simp [nB, hh]
  have hF : nF l = 0 := by simp [nF, hh]
  have hN : nN l = l.length := by
    unfold nN
    rw [hB, hF, Nat.zero_add, List.drop_zero]
    exact runN_all fun c hc => by simp [inB, h c hc]
  refine ⟨hB, hF, hN, ?_⟩
  unfold nDs
  rw [hN, hF, List.drop_zero, List.take_length]
theorem hex_shape {ds : List UInt8} (h : ∀ c ∈ ds, inB 16 c = true) : nB (48 :: 120 :: ds) = 16 ∧ nF (48 :: 120 :: ds) = 2 ∧ nN (48 :: 120 :: ds) = ds.length + 2 ∧ nDs (48 :: 120 :: ds) = ds := by
  have hh : hexH (48 :: 120 :: ds) = true := rfl
  have hB : nB (48 :: 120 :: ds) = 16 := by simp [nB, hh]
  have hF : nF (48 :: 120 :: ds) = 2 := by simp [nF, hh]
  have hN : nN (48 :: 120 :: ds) = ds.length + 2 := by
    unfold nN
    rw [hB, hF]
    show 2 + runN (inB 16) ds = _
    rw [runN_all h]; omega
  refine ⟨hB, hF, hN, ?_⟩
  unfold nDs
  rw [hN, hF]
  show (48 :: 120 :: ds.take ds.length).drop 2 = ds
  simp
theorem cut_one {c : UInt8} {r : List UInt8} {v : Nat} (hd : isDig c = true) (hv : numV (c :: r) = some v) (hN : nN (c :: r) = (c :: r).length) : cutL 0 (c :: r) = .inr [(⟨2, c :: r, (v : Nat)⟩, 0), (endT, (c :: r).length)] := by
  obtain ⟨h1, h2, h3, -⟩ := dig_facts hd
  have ho : oneL (c :: r) = some ((⟨2, c :: r, ((v : Nat) : Int)⟩ : Tk), (c :: r).length) := by
    simp only [oneL, h1, hd, if_true, Bool.false_eq_true, if_false, hv, hN, Option.map_some, List.take_length]
  rw [cutL_some h2 h3 ho, Nat.zero_add, List.drop_length, cutL_nil]
  rfl
theorem cut_no {c : UInt8} {r : List UInt8} (hd : isDig c = true) (hv : numV (c :: r) = none) : cutL 0 (c :: r) = .inl 0 := by
  obtain ⟨h1, h2, h3, -⟩ := dig_facts hd
  have ho : oneL (c :: r) = none := by
    simp only [oneL, h1, hd, if_true, Bool.false_eq_true, if_false, hv, Option.map_none]
  exact cutL_none h2 h3 ho
theorem digs_cons (B n : Nat) : ∃ c r, digs B n = c :: r := by
  have := digs_pos B n
  match h : digs B n with
  | [] => rw [h] at this; simp at this
  | c :: r => exact ⟨c, r, rfl⟩
theorem cut_dec {n : Nat} (hn : n ≤ 4294967295) : cutL 0 (digs 10 n) = .inr [(⟨2, digs 10 n, (n : Nat)⟩, 0), (endT, (digs 10 n).length)] := by
  have hall := digs10_all n
  obtain ⟨hB, hF, hN, hD⟩ := dig_shape hall
  have hv : numV (digs 10 n) = some n := by
    unfold numV
    rw [hB, hD, puL_digs (by omega) n hn]
    simp [hN, wordN]
  obtain ⟨c, r, e⟩ := digs_cons 10 n
  rw [e] at hv hN hall ⊢
  exact cut_one (hall c (by simp)) hv hN
theorem cut_hex {n : Nat} (hn : n ≤ 4294967295) : cutL 0 (48 :: 120 :: digs 16 n) = .inr [(⟨2, 48 :: 120 :: digs 16 n, (n : Nat)⟩, 0), (endT, (48 :: 120 :: digs 16 n).length)] := by
  obtain ⟨hB, hF, hN, hD⟩ := hex_shape (digs16_all n)
  have hv : numV (48 :: 120 :: digs 16 n) = some n := by
    unfold numV
    rw [hB, hD, puL_digs (by omega) n hn]
    simp [hN, wordN]
  exact cut_one rfl hv hN
theorem puL_big {B M : Nat} (hB : 2 ≤ B ∧ B ≤ 36) {n : Nat} (hn : M < n) : puL B M 0 (digs B n) = none := by
  cases h : puL B M 0 (digs B n) with
  | none => rfl
  | some v =>
    exfalso
    have key : ∀ (l : List UInt8) (a v M' : Nat), puL B M a l = some v → M ≤ M' → puL B M' a l = some v := by
      intro l
      induction l with
      | nil => intro a v M' h _; exact h
      | cons c l ih =>
        intro a v M' h hM
        simp only [puL] at h ⊢
        split at h
        · rename_i n' hs
          have : puStep B M' a c = some n' := by
            unfold puStep at hs ⊢
            split at hs
            · split at hs
              · rename_i hc
                rw [if_pos ⟨hc.1, by omega⟩]; exact hs
              · cases hs
            · cases hs
          rw [this]
          exact ih _ _ _ h hM
        · cases h
    have h2 := key _ _ _ n h (by omega)
    rw [puL_digs hB n (Nat.le_refl _)] at h2
    have hvM : v ≤ M := by
      have le : ∀ (l : List UInt8) (a v : Nat), a ≤ M → puL B M a l = some v → v ≤ M := by
        intro l
        induction l with
        | nil => intro a v h e; simp [puL] at e; omega
        | cons c l ih =>
          intro a v h e
          simp only [puL] at e
          split at e
          · rename_i n' hs
            refine ih n' v ?_ e
            unfold puStep at hs
            split at hs
            · split at hs
              · simp at hs; omega
              · cases hs
            · cases hs
          · cases e
      exact le _ 0 v (by omega) h
    have := Option.some.inj h2
    omega
theorem cut_big {n : Nat} (hn : 4294967295 < n) : cutL 0 (48 :: 120 :: digs 16 n) = .inl 0 := by
  obtain ⟨hB, hF, hN, hD⟩ := hex_shape (digs16_all n)
  have hv : numV (48 :: 120 :: digs 16 n) = none := by
    unfold numV
    rw [hB, hD, puL_big (by omega) hn]
  exact cut_no rfl hv
theorem cut_zero (n : Nat) : cutL 0 (48 :: digs 10 n) = .inl 0 := by
  have hall : ∀ c ∈ 48 :: digs 10 n, isDig c = true := fun c hc => by
    rcases List.mem_cons.1 hc with rfl | hc
    · rfl
    · exact digs10_all n c hc
  obtain ⟨hB, hF, hN, hD⟩ := dig_shape hall
  have hv : numV (48 :: digs 10 n) = none := by
    unfold numV
    rw [hB, hD]
    split
    · rename_i v h
      rw [if_neg]
      rintro ⟨h1, -⟩
      rcases Nat.eq_zero_or_pos v with rfl | hp
      · have h0 : digs 10 0 = [48] := by decide +kernel
        rw [h0] at h1
        have := digs_pos 10 n
        simp only [List.cons.injEq, true_and] at h1
        rw [← h1] at this
        simp at this
      · obtain ⟨c, r, e, hc⟩ := digs_first (B := 10) (by omega) v hp
        rw [e] at h1
        simp only [List.cons.injEq] at h1
        exact hc h1.1
    · rfl
  exact cut_no rfl hv
end Go.Proofs.YtjlicambfepfiaaGreatDoor.Ab

set_option linter.unusedVariables false
set_option linter.unusedSimpArgs false
namespace Go.Proofs.YtjlicambfepfiaaGreatDoor.Ab
open Go Go.RowKit
set_option maxRecDepth 100000

/-! One text begins with these tokens; what comes behind. -/
def Cx (l : List UInt8) (ts : List Tk) (r : List UInt8) : Prop := ∀ a, ∃ a' us, us.map (·.1) = ts ∧ cutL a l = preC us (cutL a' r)
theorem Cx.refl (l : List UInt8) : Cx l [] l := fun a => ⟨a, [], rfl, (preC_nil _).symm⟩
theorem Cx.trans {l r r' : List UInt8} {ts ts' : List Tk} (h : Cx l ts r) (k : Cx r ts' r') : Cx l (ts ++ ts') r' := fun a => by
  obtain ⟨a1, us, e, h1⟩ := h a
  obtain ⟨a2, vs, e2, h2⟩ := k a1
  exact ⟨a2, us ++ vs, by simp [e, e2], by rw [h1, h2, preC_pre]⟩
theorem cx_bl {c : UInt8} {r : List UInt8} (h : isBl c = true) : Cx (c :: r) [] r := fun a => ⟨a + 1, [], rfl, by rw [cutL_bl h, preC_nil]⟩
theorem cx_tok {c : UInt8} {l r : List UInt8} {t : Tk} (hb : isBl c = false) (h2 : c.toNat ≠ 35) (ho : oneL (c :: l ++ r) = some (t, (c :: l).length)) : Cx (c :: l ++ r) [t] r := fun a => by
  refine ⟨a + (c :: l).length, [(t, a)], rfl, ?_⟩
  have this : cutL a (c :: l ++ r) = preC [(t, a)] (cutL (a + (c :: l).length) ((c :: l ++ r).drop (c :: l).length)) := cutL_some hb h2 ho
  rw [List.drop_left] at this
  exact this
theorem wordN_app : ∀ (w : List UInt8) (b : Bool) {x : UInt8} {r : List UInt8}, wordN b w = w.length → w ≠ [] → wq true x = false → wordN b (w ++ x :: r) = w.length
  | [], _, _, _, _, h, _ => absurd rfl h
  | c :: w, b, x, r, h, _, hx => by
    simp only [wordN, List.length_cons] at h
    simp only [List.cons_append, wordN, List.length_cons]
    split at h
    · rename_i hc
      rw [if_pos hc]
      cases w with
      | nil => simp [wordN, hx]
      | cons d w => rw [wordN_app (d :: w) true (by omega) (by simp) hx]
    · cases h
theorem let_facts {c : UInt8} (h : isLet c = true) : isBl c = false ∧ c.toNat ≠ 35 := by
  simp only [isLet, Bool.and_eq_true, decide_eq_true_eq] at h
  refine ⟨?_, by omega⟩
  simp only [isBl, Bool.or_eq_false_iff, beq_eq_false_iff_ne]; omega
theorem cx_word {c : UInt8} {w : List UInt8} {x : UInt8} {r : List UInt8} (hl : isLet c = true) (hw : wordN false (c :: w) = (c :: w).length) (hx : wq true x = false) : Cx (c :: w ++ x :: r) [⟨1, c :: w, 0⟩] (x :: r) := by
  refine cx_tok (let_facts hl).1 (let_facts hl).2 ?_
  have h := wordN_app (c :: w) false (x := x) (r := r) hw (by simp) hx
  have h' : wordN false (c :: (w ++ x :: r)) = (c :: w).length := h
  show oneL (c :: (w ++ x :: r)) = _
  simp only [oneL, hl, if_true, h']
  congr 3
  rw [show c :: (w ++ x :: r) = c :: w ++ x :: r from rfl, List.take_left]
theorem runN_app {p : UInt8 → Bool} : ∀ {l : List UInt8} {x : UInt8} {r : List UInt8}, (∀ c ∈ l, p c = true) → p x = false → runN p (l ++ x :: r) = l.length
  | [], x, r, _, hx => by simp [runN, hx]
  | c :: l, x, r, h, hx => by
    simp only [List.cons_append, runN, h c (by simp), if_true, List.length_cons]
    rw [runN_app (fun c hc => h c (by simp [hc])) hx]
theorem cx_hex {n : Nat} {r : List UInt8} (hn : n ≤ 4294967295) : Cx (48 :: 120 :: digs 16 n ++ 32 :: r) [⟨2, 48 :: 120 :: digs 16 n, (n : Nat)⟩] (32 :: r) := by
  refine cx_tok (l := 120 :: digs 16 n) rfl (by decide) ?_
  have hN : nN (48 :: 120 :: (digs 16 n ++ 32 :: r)) = (digs 16 n).length + 2 := by
    unfold nN
    rw [show nB (48 :: 120 :: (digs 16 n ++ 32 :: r)) = 16 from rfl, show nF (48 :: 120 :: (digs 16 n ++ 32 :: r)) = 2 from rfl]
    show 2 + runN (inB 16) (digs 16 n ++ 32 :: r) = _
    rw [runN_app (digs16_all n) rfl]; omega
  have hD : nDs (48 :: 120 :: (digs 16 n ++ 32 :: r)) = digs 16 n := by
    unfold nDs
    rw [hN, show nF (48 :: 120 :: (digs 16 n ++ 32 :: r)) = 2 from rfl]
    show (48 :: 120 :: (digs 16 n ++ 32 :: r).take (digs 16 n).length).drop 2 = digs 16 n
    rw [List.take_left]; rfl
  have hv : numV (48 :: 120 :: (digs 16 n ++ 32 :: r)) = some n := by
    unfold numV
    rw [hD, show nB (48 :: 120 :: (digs 16 n ++ 32 :: r)) = 16 from rfl, puL_digs (by omega) n hn, hN]
    have : (48 :: 120 :: (digs 16 n ++ 32 :: r)).drop ((digs 16 n).length + 2) = 32 :: r := by
      show (digs 16 n ++ 32 :: r).drop (digs 16 n).length = _
      rw [List.drop_left]
    rw [this]
    simp [wordN, wq, isLet]
  show oneL (48 :: 120 :: (digs 16 n ++ 32 :: r)) = _
  have h1 : isLet 48 = false := rfl
  have h2 : isDig 48 = true := rfl
  have e1 : (48 :: 120 :: (digs 16 n ++ 32 :: r)).take ((digs 16 n).length + 2) = 48 :: 120 :: digs 16 n := by
    show 48 :: 120 :: (digs 16 n ++ 32 :: r).take (digs 16 n).length = _
    rw [List.take_left]
  simp only [oneL, h1, h2, if_true, Bool.false_eq_true, if_false, hv, Option.map_some, hN, e1]
  rfl
theorem cx_dec {n : Nat} {r : List UInt8} (hn : n ≤ 4294967295) : Cx (digs 10 n ++ 32 :: r) [⟨2, digs 10 n, (n : Nat)⟩] (32 :: r) := by
  have hall := digs10_all n
  have hh : hexH (digs 10 n ++ 32 :: r) = false := by
    obtain ⟨c, l, e⟩ := digs_cons 10 n
    rw [e] at hall ⊢
    cases l with
    | nil => simp [hexH]
    | cons d l =>
      have := (dig_facts (hall d (by simp))).2.2.2
      simp [hexH, this]
  have hB : nB (digs 10 n ++ 32 :: r) = 10 := by simp [nB, hh]
  have hF : nF (digs 10 n ++ 32 :: r) = 0 := by simp [nF, hh]
  have hN : nN (digs 10 n ++ 32 :: r) = (digs 10 n).length := by
    unfold nN
    rw [hB, hF, Nat.zero_add, List.drop_zero]
    exact runN_app (fun c hc => by simp [inB, hall c hc]) rfl
  have hD : nDs (digs 10 n ++ 32 :: r) = digs 10 n := by
    unfold nDs
    rw [hN, hF, List.drop_zero, List.take_left]
  have hv : numV (digs 10 n ++ 32 :: r) = some n := by
    unfold numV
    rw [hD, hB, puL_digs (by omega) n hn, hN, List.drop_left]
    simp [wordN, wq, isLet]
  obtain ⟨c, l, e⟩ := digs_cons 10 n
  rw [e] at hall hN hv ⊢
  have hd := hall c (by simp)
  obtain ⟨h1, h2, h3, -⟩ := dig_facts hd
  refine cx_tok h2 h3 ?_
  have hv : numV (c :: (l ++ 32 :: r)) = some n := hv
  have hN : nN (c :: (l ++ 32 :: r)) = (c :: l).length := hN
  show oneL (c :: (l ++ 32 :: r)) = _
  simp only [oneL, h1, hd, if_true, Bool.false_eq_true, if_false, hv, Option.map_some, hN]
  congr 3
  rw [show c :: (l ++ 32 :: r) = c :: l ++ 32 :: r from rfl, List.take_left]
theorem cx_quo {t r : List UInt8} (h : StrOk t) : Cx (qL t ++ r) [⟨3, t, 0⟩] r := by
  obtain ⟨e, he, hq⟩ := h
  have e1 : qL t = 34 :: (e ++ [34]) := by unfold qL; rw [he]
  rw [e1]
  refine cx_tok (l := e ++ [34]) rfl (by decide) ?_
  have h1 : isLet 34 = false := rfl
  have h2 : isDig 34 = false := rfl
  have h3 : (34 : UInt8).toNat = 34 := rfl
  show oneL (34 :: (e ++ [34] ++ r)) = _
  have hq' : qd (e ++ [34] ++ r) = some (e.length + 1, t) := by rw [List.append_assoc]; exact hq r
  simp only [oneL, h1, h2, h3, if_true, Bool.false_eq_true, if_false, hq', Option.map_some]
  simp
theorem cx_sign {r : List UInt8} : Cx (59 :: r) [⟨4, [59], 0⟩] r := by
  refine cx_tok (l := []) (r := r) rfl (by decide) ?_
  rfl

end Go.Proofs.YtjlicambfepfiaaGreatDoor.Ab

set_option linter.unusedVariables false
set_option linter.unusedSimpArgs false
namespace Go.Proofs.YtjlicambfepfiaaGreatDoor.Ab
open Go Go.RowKit
set_option maxHeartbeats 1000000
set_option maxRecDepth 100000

/-- What lies of a token in a slice. -/
structure TokAt (m : Mem) (v : Value) (n j : Nat) (p : Tk × Nat) (i q : Nat) (L : List Value) : Prop where
  idx : sidx 4 v (.int .i64 (j : Int)) = some (.pointer (some ⟨i, q, none⟩))
  get : (m.get i).cells? = some L
  len : q + 4 ≤ L.length
  g0 : L[q]? = some (.int .i64 p.1.kd)
  g1 : L[q + 1]? = some (.string ⟨⟨p.1.tx⟩⟩)
  g2 : L[q + 2]? = some (.int .i64 p.1.vl)
  g3 : L[q + 3]? = some (.int .i64 (p.2 : Int))
  g : (L.drop q).take 4 = cellP p
theorem tok_at {m : Mem} {v : Value} {us : List (Tk × Nat)} {j : Nat} (h : SlR m 4 v (us.flatMap cellP) us.length) (hj : j < us.length) : ∃ i q L, TokAt m v us.length j us[j] i q L := by
  obtain ⟨i, o, L, hv, hL, hl, ht, hc⟩ := h.at hj
  refine ⟨i, o + j * 4, L, ?_, hL, by omega, ?_, ?_, ?_, ?_, ?_⟩
  · rw [hv]; exact sidx_at hj
  · have := hc 0 (by omega)
    rw [flat_at' cellP_len us (List.getElem?_eq_getElem hj) (by omega)] at this
    exact this
  · have := hc 1 (by omega)
    rw [flat_at' cellP_len us (List.getElem?_eq_getElem hj) (by omega)] at this
    exact this
  · have := hc 2 (by omega)
    rw [flat_at' cellP_len us (List.getElem?_eq_getElem hj) (by omega)] at this
    exact this
  · have := hc 3 (by omega)
    rw [flat_at' cellP_len us (List.getElem?_eq_getElem hj) (by omega)] at this
    exact this
  · rw [ht, flat_at cellP_len us (List.getElem?_eq_getElem hj)]
theorem getL {L : List Value} {k : Nat} {x : Value} (h : L[k]? = some x) : ∀ hk : k < L.length, L[k]'hk = x := fun hk => by
  rw [List.getElem?_eq_getElem hk] at h
  exact Option.some.inj h

/-- Where a parser is, and what was wrong first. -/
structure PS where
  k : Nat
  err : Option (Nat × Nat)
def errV (e : Option (Nat × Nat)) : Value := match e with
  | none => .nilIface
  | some p => faultV p.1 p.2
/-- The parser lies in a block, over tokens that lie in another. -/
def PsAt (m : Mem) (ip it : Nat) (ts : List (Tk × Nat)) (s : PS) : Prop := m.get ip = .own [.slice (some ⟨it, 0, none⟩) ts.length 4, .int .i64 (s.k : Int), errV s.err] 84 ∧ m.get it = .own (ts.flatMap cellP) 87 ∧ ip < m.next ∧ it < m.next ∧ ip ≠ it
/-- Nothing but the parser has changed. -/
def Kept (ip : Nat) (m m' : Mem) : Prop := m.next ≤ m'.next ∧ ∀ i, i < m.next → i ≠ ip → m'.get i = m.get i
theorem Kept.refl (ip : Nat) (m : Mem) : Kept ip m m := ⟨Nat.le_refl _, fun _ _ _ => rfl⟩
theorem Kept.trans {ip : Nat} {a b c : Mem} (h : Kept ip a b) (k : Kept ip b c) : Kept ip a c :=
  ⟨Nat.le_trans h.1 k.1, fun i hi hn => by rw [k.2 i (Nat.lt_of_lt_of_le hi h.1) hn, h.2 i hi hn]⟩
theorem Old.kept {ip : Nat} {a b : Mem} (h : Old a b) : Kept ip a b := ⟨h.1, fun i hi _ => h.2 i hi⟩
theorem PsAt.old {m m' : Mem} {ip it : Nat} {ts : List (Tk × Nat)} {s : PS} (h : PsAt m ip it ts s) (o : Old m m') : PsAt m' ip it ts s :=
  ⟨by rw [o.2 _ h.2.2.1]; exact h.1, by rw [o.2 _ h.2.2.2.1]; exact h.2.1, Nat.lt_of_lt_of_le h.2.2.1 o.1, Nat.lt_of_lt_of_le h.2.2.2.1 o.1, h.2.2.2.2⟩

def tok0 : Tk × Nat := (⟨0, [], 0⟩, 0)
def failF (ts : List (Tk × Nat)) (no : Nat) (s : PS) : PS := match s.err with
  | some e => s
  | none => ⟨s.k, some (no, (ts.getD s.k tok0).2)⟩
def misfit (t : Tk) (kd : Int) (tx : List UInt8) : Bool := (t.kd != kd) || (!tx.isEmpty && t.tx != tx)
def takeF (ts : List (Tk × Nat)) (kd : Int) (tx : List UInt8) (s : PS) : (Tk × Nat) × PS :=
  let s' := if misfit (ts.getD s.k tok0).1 kd tx then failF ts 2 s else s
  match s'.err with
  | some e => (tok0, s')
  | none => (ts.getD s.k tok0, ⟨s.k + 1, none⟩)

/-- What a take answers with, when all that was wrong is said. -/
def takeR (p : Tk × Nat) (s : PS) : (Tk × Nat) × PS := match s.err with
  | some e => (tok0, s)
  | none => (p, ⟨s.k + 1, none⟩)
theorem takeF_eq (ts : List (Tk × Nat)) (kd : Int) (tx : List UInt8) (s : PS) : takeF ts kd tx s = takeR (ts.getD s.k tok0) (if misfit (ts.getD s.k tok0).1 kd tx then failF ts 2 s else s) := by
  obtain ⟨k, err⟩ := s
  simp only [takeF, takeR]
  by_cases h : misfit (ts.getD k tok0).1 kd tx = true
  · simp only [h, if_true]
    cases err <;> simp [failF]
  · simp only [h, if_false]
    cases err <;> simp

theorem w_take1 {w0 : World} {fr : Fr} {base m : Mem} {ip it i6 i7 : Nat} {ts : List (Tk × Nat)} {p : Tk × Nat} {s : PS} {Q : AQ} (h : PsAt m ip it ts s) (hb : Kept ip base m) (hp : ip < base.next) (hpt : it < base.next) (h6 : base.next ≤ i6) (h7 : base.next ≤ i7) (h67 : i6 ≠ i7)
    (e0 : fr 0 = .pointer (some ⟨ip, 0, none⟩)) (e6 : fr 6 = .pointer (some ⟨i6, 0, none⟩)) (e7 : fr 7 = .pointer (some ⟨i7, 0, none⟩)) (g6 : m.get i6 = .own (cellP tok0) 87) (g7 : m.get i7 = .own (cellP p) 87) (hk : s.k < 1000000)
    (hQ : ∀ fr' m', fr' 6 = .pointer (some ⟨i6, 0, none⟩) → m'.get i6 = .own (cellP (takeR p s).1) 87 → Kept ip base m' → PsAt m' ip it ts (takeR p s).2 → Q .ret fr' m') : AbW Tryz.prog w0 rc49_1 Q fr m := by
  obtain ⟨k, err⟩ := s
  obtain ⟨h1, h2, h3, h4, h5⟩ := h
  have hk : k < 1000000 := hk
  have z6 : m.get i6 = .own [.int .i64 0, .string ⟨#[]⟩, .int .i64 0, .int .i64 0] 87 := g6
  cases err with
  | some e =>
    have h1 : m.get ip = .own [.slice (some ⟨it, 0, none⟩) ts.length 4, .int .i64 (k : Int), faultV e.1 e.2] 84 := h1
    simp -implicitDefEqProofs (disch := first | assumption | (simp only [wnA]; done) | (simp only [wnA]; omega) | omega | fail) [rc49_1, wkA, retV, stabOk, dC, ev, fillD, pickCells, putAt, bnd, slD, List.getElem?_cons_zero, List.getElem?_cons_succ, dR.eq_20, Mem.cell, Mem.row, wmA, e0, h1, faultV, e6]
    refine SK_st (i := i6) (o := 0) (by simp [wkA, retV, stabOk, dC, ev, fillD, pickCells, putAt, bnd, slD, List.getElem?_cons_zero, List.getElem?_cons_succ, dR.eq_20, e6]) (e := 87) z6 (by simp) (by simp [wkA, retV, stabOk, dC, ev, fillD, pickCells, putAt, bnd, slD, List.getElem?_cons_zero, List.getElem?_cons_succ, dR.eq_20]) (by simp [wkA, retV, stabOk, dC, ev, fillD, pickCells, putAt, bnd, slD, List.getElem?_cons_zero, List.getElem?_cons_succ, dR.eq_20, oneC]) ?_
    simp -implicitDefEqProofs (disch := first | assumption | (simp only [wnA]; done) | (simp only [wnA]; omega) | omega | fail) [wkA, retV, stabOk, dC, ev, fillD, pickCells, putAt, bnd, slD, List.getElem?_cons_zero, List.getElem?_cons_succ, dR.eq_20, Mem.cell, Mem.row, wmA]
    refine hQ _ _ (by first | exact e6 | simp [e6]) (by simp [takeR, tok0, cellP, Tk.cells]) ⟨hb.1, fun i hi hn => by rw [Mem.set_other _ _ (by omega)]; exact hb.2 i hi hn⟩ ⟨?_, ?_, h3, h4, h5⟩
    · rw [Mem.set_other _ _ (by omega)]; exact h1
    · rw [Mem.set_other _ _ (by omega)]; exact h2
  | none =>
    have h1 : m.get ip = .own [.slice (some ⟨it, 0, none⟩) ts.length 4, .int .i64 (k : Int), .nilIface] 84 := h1
    have w1 : IntKind.i64.wrap ((k : Int) + 1) = (k : Int) + 1 := w64 (by omega)
    have n7p : i7 ≠ ip := by omega
    have n6p : i6 ≠ ip := by omega
    simp -implicitDefEqProofs (disch := first | assumption | (simp only [wnA]; done) | (simp only [wnA]; omega) | omega | fail) [rc49_1, wkA, retV, stabOk, dC, ev, fillD, pickCells, putAt, bnd, slD, List.getElem?_cons_zero, List.getElem?_cons_succ, dR.eq_20, Mem.cell, Mem.row, wmA, e0, h1, e6, rc49_0, w1]
    refine SK_st (i := ip) (o := 1) (by simp [wkA, retV, stabOk, dC, ev, fillD, pickCells, putAt, bnd, slD, List.getElem?_cons_zero, List.getElem?_cons_succ, dR.eq_20]) (e := 84) h1 (by simp) (by simp [wkA, retV, stabOk, dC, ev, fillD, pickCells, putAt, bnd, slD, List.getElem?_cons_zero, List.getElem?_cons_succ, dR.eq_20]) (by simp [wkA, retV, stabOk, dC, ev, fillD, pickCells, putAt, bnd, slD, List.getElem?_cons_zero, List.getElem?_cons_succ, dR.eq_20, oneC]) ?_
    have a6 : (m.set ip (.own [.slice (some ⟨it, 0, none⟩) ts.length 4, .int .i64 ((k : Int) + 1), .nilIface] 84)).get i6 = .own [.int .i64 0, .string ⟨#[]⟩, .int .i64 0, .int .i64 0] 87 := by rw [Mem.set_other _ _ n6p]; exact z6
    have a7 : (m.set ip (.own [.slice (some ⟨it, 0, none⟩) ts.length 4, .int .i64 ((k : Int) + 1), .nilIface] 84)).get i7 = .own [.int .i64 p.1.kd, .string ⟨⟨p.1.tx⟩⟩, .int .i64 p.1.vl, .int .i64 (p.2 : Int)] 87 := by rw [Mem.set_other _ _ n7p]; exact g7
    have z7 : m.get i7 = .own [.int .i64 p.1.kd, .string ⟨⟨p.1.tx⟩⟩, .int .i64 p.1.vl, .int .i64 (p.2 : Int)] 87 := g7
    simp -implicitDefEqProofs (disch := first | assumption | (simp only [wnA]; done) | (simp only [wnA]; omega) | omega | fail) [wkA, retV, stabOk, dC, ev, fillD, pickCells, putAt, bnd, slD, List.getElem?_cons_zero, List.getElem?_cons_succ, dR.eq_20, Mem.cell, Mem.row, wmA, e7, e6, z7]
    refine SK_st (i := i6) (o := 0) (by simp [wkA, retV, stabOk, dC, ev, fillD, pickCells, putAt, bnd, slD, List.getElem?_cons_zero, List.getElem?_cons_succ, dR.eq_20, e6]) (e := 87) a6 (by simp) (by simp [wkA, retV, stabOk, dC, ev, fillD, pickCells, putAt, bnd, slD, List.getElem?_cons_zero, List.getElem?_cons_succ, dR.eq_20]) (by simp [wkA, retV, stabOk, dC, ev, fillD, pickCells, putAt, bnd, slD, List.getElem?_cons_zero, List.getElem?_cons_succ, dR.eq_20, oneC]) ?_
    simp -implicitDefEqProofs (disch := first | assumption | (simp only [wnA]; done) | (simp only [wnA]; omega) | omega | fail) [wkA, retV, stabOk, dC, ev, fillD, pickCells, putAt, bnd, slD, List.getElem?_cons_zero, List.getElem?_cons_succ, dR.eq_20, Mem.cell, Mem.row, wmA]
    refine hQ _ _ (by first | exact e6 | simp [e6]) (by simp [takeR, cellP, Tk.cells]) ⟨hb.1, fun i hi hn => by rw [Mem.set_other _ _ (by omega), Mem.set_other _ _ hn]; exact hb.2 i hi hn⟩ ⟨?_, ?_, h3, h4, h5⟩
    · rw [Mem.set_other _ _ (by omega)]; simp [takeR, errV]
    · rw [Mem.set_other _ _ (by omega), Mem.set_other _ _ (fun e => h5 e.symm)]; exact h2

theorem SK_stv {P : Program} {w0 : World} {ts : Fr} {m : Mem} {R : Value → Mem → Prop} {n i o : Nat} {p x : Operand} {cs vs : List Value} {e : TypeId} (hp : ev ts p = .pointer (some ⟨i, o, none⟩)) (hm : m.get i = .own cs e) (hv : cellsV (ev ts x) = vs) (h1 : o + n ≤ cs.length) (h2 : vs.length = n) (h3 : vs.all oneC = true)
    (hR : R undef (m.set i (.own (putAt cs o vs) e))) : SK P w0 (.e (.st n p x)) ts m R := by
  subst hv
  exact SK_st hp hm h1 h2 h3 hR

/-- Is the next token of a kind, and a text? -/
def isF (ts : List (Tk × Nat)) (kd : Int) (tx : List UInt8) (s : PS) : Bool := s.err.isNone && !misfit (ts.getD s.k tok0).1 kd tx
theorem c_is {w0 : World} {m : Mem} {ip it : Nat} {ts : List (Tk × Nat)} {kd : Int} {tx : List UInt8} {s : PS} {Q : Value → Mem → Prop} (h : PsAt m ip it ts s) (hk : s.k < ts.length) (hl : ts.length ≤ 1000000)
    (hq : ∀ m', Old m m' → Q (.bool (isF ts kd tx s)) m') : AbC Tryz.prog w0 50 [.pointer (some ⟨ip, 0, none⟩), .int .i64 kd, .string ⟨⟨tx⟩⟩] m Q := by
  refine AbC_fn ok50 (by simp) ?_
  have hgd : ts.getD s.k tok0 = ts[s.k] := by simp [List.getD, List.getElem?_eq_getElem hk]
  obtain ⟨h1, h2, h3, h4, h5⟩ := h
  have hidx : sidx 4 (.slice (some ⟨it, 0, none⟩) ts.length 4) (.int .i64 (s.k : Int)) = some (.pointer (some ⟨it, 0 + s.k * 4, none⟩)) := sidx_at hk
  rw [Nat.zero_add] at hidx
  have hb1 : s.k * 4 + 4 ≤ (ts.flatMap cellP).length := by rw [cellsP_len]; omega
  have hg : ((ts.flatMap cellP).drop (s.k * 4)).take 4 = cellP ts[s.k] := flat_at cellP_len ts (List.getElem?_eq_getElem hk)
  unfold isF at hq
  rw [hgd] at hq
  clear hgd
  generalize ts[s.k] = p at *
  obtain ⟨⟨kd0, tx0, vl0⟩, at0⟩ := p
  generalize ts.flatMap cellP = L at *
  have hg : (L.drop (s.k * 4)).take 4 = [.int .i64 kd0, .string ⟨⟨tx0⟩⟩, .int .i64 vl0, .int .i64 (at0 : Int)] := hg
  simp -implicitDefEqProofs (disch := first | assumption | (simp only [wnA]; done) | (simp only [wnA]; omega) | omega | fail) [rc50, ro50, wkA, retV, stabOk, dC, ev, fillD, pickCells, putAt, bnd, slD, List.getElem?_cons_zero, List.getElem?_cons_succ, dR.eq_20, Mem.cell, Mem.row, wmA, h1, h2, hidx, hg, hb1]
  obtain ⟨M, hM⟩ : ∃ M, (m.push (.own [.int .i64 0, .string ⟨#[]⟩, .int .i64 0, .int .i64 0] 87)).set m.next (.own (putAt [.int .i64 0, .string ⟨#[]⟩, .int .i64 0, .int .i64 0] 0 [.int .i64 kd0, .string ⟨⟨tx0⟩⟩, .int .i64 vl0, .int .i64 (at0 : Int)]) 87) = M := ⟨_, rfl⟩
  refine SK_stv (i := m.next) (o := 0) (vs := [.int .i64 kd0, .string ⟨⟨tx0⟩⟩, .int .i64 vl0, .int .i64 (at0 : Int)]) (cs := [.int .i64 0, .string ⟨#[]⟩, .int .i64 0, .int .i64 0]) (e := 87) (by simp [wkA, retV, stabOk, dC, ev, fillD, pickCells, putAt, bnd, slD, List.getElem?_cons_zero, List.getElem?_cons_succ, dR.eq_20]) (by simp -implicitDefEqProofs (disch := first | assumption | (simp only [wnA]; done) | (simp only [wnA]; omega) | omega | fail) [wkA, retV, stabOk, dC, ev, fillD, pickCells, putAt, bnd, slD, List.getElem?_cons_zero, List.getElem?_cons_succ, dR.eq_20, Mem.cell, Mem.row, wmA]) (by simp [wkA, retV, stabOk, dC, ev, fillD, pickCells, putAt, bnd, slD, List.getElem?_cons_zero, List.getElem?_cons_succ, dR.eq_20]) (by simp) rfl rfl ?_
  rw [hM]
  have oM : Old m M := by subst hM; exact ((Old.refl m).push _).set (Nat.le_refl _) _
  have gM : M.get m.next = .own [.int .i64 kd0, .string ⟨⟨tx0⟩⟩, .int .i64 vl0, .int .i64 (at0 : Int)] 87 := by subst hM; rw [Mem.set_same]; rfl
  have gp : M.get ip = .own [.slice (some ⟨it, 0, none⟩) ts.length 4, .int .i64 (s.k : Int), errV s.err] 84 := (oM.2 ip h3).trans h1
  have hq := hq M oM
  obtain ⟨k, err⟩ := s
  cases err with
  | some e =>
    have gp : M.get ip = .own [.slice (some ⟨it, 0, none⟩) ts.length 4, .int .i64 (k : Int), faultV e.1 e.2] 84 := gp
    simp -implicitDefEqProofs (disch := first | assumption | (simp only [wnA]; done) | (simp only [wnA]; omega) | omega | fail) [wkA, retV, stabOk, dC, ev, fillD, pickCells, putAt, bnd, slD, List.getElem?_cons_zero, List.getElem?_cons_succ, dR.eq_20, Mem.cell, Mem.row, wmA, gM, gp, faultV]
    exact hq
  | none =>
    have gp : M.get ip = .own [.slice (some ⟨it, 0, none⟩) ts.length 4, .int .i64 (k : Int), .nilIface] 84 := gp
    by_cases c1 : kd0 = kd
    · by_cases c2 : tx = []
      · simp -implicitDefEqProofs (disch := first | assumption | (simp only [wnA]; done) | (simp only [wnA]; omega) | omega | fail) [wkA, retV, stabOk, dC, ev, fillD, pickCells, putAt, bnd, slD, List.getElem?_cons_zero, List.getElem?_cons_succ, dR.eq_20, Mem.cell, Mem.row, wmA, gM, gp, c1, c2]
        simpa [misfit, c1, c2] using hq
      · have c2' : tx.isEmpty = false := by cases tx <;> simp at c2 ⊢
        by_cases c3 : tx0 = tx
        · simp -implicitDefEqProofs (disch := first | assumption | (simp only [wnA]; done) | (simp only [wnA]; omega) | omega | fail) [wkA, retV, stabOk, dC, ev, fillD, pickCells, putAt, bnd, slD, List.getElem?_cons_zero, List.getElem?_cons_succ, dR.eq_20, Mem.cell, Mem.row, wmA, gM, gp, c1, c2', c3]
          simpa [misfit, c1, c2', c3] using hq
        · have c3' : (tx0 == tx) = false := by simpa using c3
          simp -implicitDefEqProofs (disch := first | assumption | (simp only [wnA]; done) | (simp only [wnA]; omega) | omega | fail) [wkA, retV, stabOk, dC, ev, fillD, pickCells, putAt, bnd, slD, List.getElem?_cons_zero, List.getElem?_cons_succ, dR.eq_20, Mem.cell, Mem.row, wmA, gM, gp, c1, c2', c3']
          have hm : misfit ⟨kd0, tx0, vl0⟩ kd tx = true := by simp [misfit, c1, c2', bne, c3']
          simpa [hm] using hq
    · have hm : misfit ⟨kd0, tx0, vl0⟩ kd tx = true := by rw [misfit, bneT c1]; rfl
      simp -implicitDefEqProofs (disch := first | assumption | (simp only [wnA]; done) | (simp only [wnA]; omega) | omega | fail) [wkA, retV, stabOk, dC, ev, fillD, pickCells, putAt, bnd, slD, List.getElem?_cons_zero, List.getElem?_cons_succ, dR.eq_20, Mem.cell, Mem.row, wmA, gM, gp, beqF c1]
      simpa [hm] using hq

theorem c_take {w0 : World} {m : Mem} {ip it : Nat} {ts : List (Tk × Nat)} {kd : Int} {tx : List UInt8} {s : PS} {Q : Value → Mem → Prop} (h : PsAt m ip it ts s) (hk : s.k < ts.length) (hl : ts.length ≤ 1000000)
    (hq : ∀ m', Kept ip m m' → PsAt m' ip it ts (takeF ts kd tx s).2 → Q (.agg ⟨cellP (takeF ts kd tx s).1⟩) m') : AbC Tryz.prog w0 49 [.pointer (some ⟨ip, 0, none⟩), .int .i64 kd, .string ⟨⟨tx⟩⟩] m Q := by
  refine AbC_fn ok49 (by simp) ?_
  rw [takeF_eq] at hq
  have hgd : ts.getD s.k tok0 = ts[s.k] := by simp [List.getD, List.getElem?_eq_getElem hk]
  have hisF : isF ts kd tx s = (s.err.isNone && !misfit ts[s.k].1 kd tx) := by unfold isF; rw [hgd]
  have hfl : failF ts 2 s = (match s.err with | some e => s | none => ⟨s.k, some (2, ts[s.k].2)⟩) := by unfold failF; rw [hgd]
  obtain ⟨h1, h2, h3, h4, h5⟩ := h
  have hidx : sidx 4 (.slice (some ⟨it, 0, none⟩) ts.length 4) (.int .i64 (s.k : Int)) = some (.pointer (some ⟨it, 0 + s.k * 4, none⟩)) := sidx_at hk
  rw [Nat.zero_add] at hidx
  have hb1 : s.k * 4 + 4 ≤ (ts.flatMap cellP).length := by rw [cellsP_len]; omega
  have hg : ((ts.flatMap cellP).drop (s.k * 4)).take 4 = cellP ts[s.k] := flat_at cellP_len ts (List.getElem?_eq_getElem hk)
  rw [hgd] at hq
  clear hgd
  generalize ts[s.k] = p at *
  obtain ⟨⟨kd0, tx0, vl0⟩, at0⟩ := p
  obtain ⟨L, hL⟩ : ∃ L, ts.flatMap cellP = L := ⟨_, rfl⟩
  rw [hL] at h2 hg hb1
  have hg : (L.drop (s.k * 4)).take 4 = [.int .i64 kd0, .string ⟨⟨tx0⟩⟩, .int .i64 vl0, .int .i64 (at0 : Int)] := hg
  simp -implicitDefEqProofs (disch := first | assumption | (simp only [wnA]; done) | (simp only [wnA]; omega) | omega | fail) [rc49, ro49, wkA, retV, stabOk, dC, ev, fillD, pickCells, putAt, bnd, slD, List.getElem?_cons_zero, List.getElem?_cons_succ, dR.eq_20, Mem.cell, Mem.row, wmA, h1, h2, hidx, hg, hb1]
  obtain ⟨M, hM⟩ : ∃ M, ((m.push (.own [.int .i64 0, .string ⟨#[]⟩, .int .i64 0, .int .i64 0] 87)).push (.own [.int .i64 0, .string ⟨#[]⟩, .int .i64 0, .int .i64 0] 87)).set (m.next + 1) (.own (putAt [.int .i64 0, .string ⟨#[]⟩, .int .i64 0, .int .i64 0] 0 [.int .i64 kd0, .string ⟨⟨tx0⟩⟩, .int .i64 vl0, .int .i64 (at0 : Int)]) 87) = M := ⟨_, rfl⟩
  refine SK_stv (i := m.next + 1) (o := 0) (vs := [.int .i64 kd0, .string ⟨⟨tx0⟩⟩, .int .i64 vl0, .int .i64 (at0 : Int)]) (cs := [.int .i64 0, .string ⟨#[]⟩, .int .i64 0, .int .i64 0]) (e := 87) (by simp [wkA, retV, stabOk, dC, ev, fillD, pickCells, putAt, bnd, slD, List.getElem?_cons_zero, List.getElem?_cons_succ, dR.eq_20]) (by simp -implicitDefEqProofs (disch := first | assumption | (simp only [wnA]; done) | (simp only [wnA]; omega) | omega | fail) [wkA, retV, stabOk, dC, ev, fillD, pickCells, putAt, bnd, slD, List.getElem?_cons_zero, List.getElem?_cons_succ, dR.eq_20, Mem.cell, Mem.row, wmA]) (by simp [wkA, retV, stabOk, dC, ev, fillD, pickCells, putAt, bnd, slD, List.getElem?_cons_zero, List.getElem?_cons_succ, dR.eq_20]) (by simp) rfl rfl ?_
  rw [hM]
  have oM : Old m M := by subst hM; exact (((Old.refl m).push _).push _).set (by omega) _
  have g6 : M.get m.next = .own [.int .i64 0, .string ⟨#[]⟩, .int .i64 0, .int .i64 0] 87 := by subst hM; rw [Mem.set_other _ _ (by omega), Mem.push_old _ _ (by simp), Mem.push_same]
  have g7 : M.get (m.next + 1) = .own [.int .i64 kd0, .string ⟨⟨tx0⟩⟩, .int .i64 vl0, .int .i64 (at0 : Int)] 87 := by subst hM; rw [Mem.set_same]; rfl
  have nM : m.next + 2 ≤ M.next := by subst hM; simp
  clear hM
  have pM : PsAt M ip it ts s := PsAt.old ⟨h1, by rw [hL]; exact h2, h3, h4, h5⟩ oM
  have go : ∀ (s' : PS) (fr : Fr) (m1 : Mem), s'.k < 1000000 → (if misfit ⟨kd0, tx0, vl0⟩ kd tx then failF ts 2 s else s) = s' → Kept ip m m1 → PsAt m1 ip it ts s' → m1.get m.next = M.get m.next → m1.get (m.next + 1) = M.get (m.next + 1) → fr 0 = .pointer (some ⟨ip, 0, none⟩) → fr 6 = .pointer (some ⟨m.next, 0, none⟩) → fr 7 = .pointer (some ⟨m.next + 1, 0, none⟩) → AbW Tryz.prog w0 rc49_1 (bodyA ro49 Q) fr m1 := fun s' fr m1 hk' hs' hK hP e6' e7' f0 f6 f7 =>
    w_take1 (p := (⟨kd0, tx0, vl0⟩, at0)) hP hK h3 h4 (Nat.le_refl _) (by omega) (by omega) f0 f6 f7 (by rw [e6', g6]; rfl) (by rw [e7', g7]; rfl) hk' fun fr' m' x6 gx kx px => by
      have gx : m'.get m.next = .own (cellP (takeR (⟨kd0, tx0, vl0⟩, at0) s').1) 87 := gx
      have hq := hq m' kx (by rw [hs']; exact px)
      rw [hs'] at hq
      have hlen : 4 ≤ (cellP (takeR (⟨kd0, tx0, vl0⟩, at0) s').1).length := by rw [cellP_len]; omega
      have htk : (cellP (takeR (⟨kd0, tx0, vl0⟩, at0) s').1).take 4 = cellP (takeR (⟨kd0, tx0, vl0⟩, at0) s').1 := List.take_of_length_le (by rw [cellP_len]; omega)
      generalize cellP (takeR (⟨kd0, tx0, vl0⟩, at0) s').1 = C at *
      simp -implicitDefEqProofs (disch := first | assumption | (simp only [wnA]; done) | (simp only [wnA]; omega) | omega | fail) [ro49, wkA, retV, stabOk, dC, ev, fillD, pickCells, putAt, bnd, slD, List.getElem?_cons_zero, List.getElem?_cons_succ, dR.eq_20, Mem.cell, Mem.row, wmA, x6, gx, hlen, htk]
      exact hq
  obtain ⟨k, err⟩ := s
  have hk : k < ts.length := hk
  cases err with
  | some e =>
    have gp : M.get ip = .own [.slice (some ⟨it, 0, none⟩) ts.length 4, .int .i64 (k : Int), faultV e.1 e.2] 84 := pM.1
    simp -implicitDefEqProofs (disch := first | assumption | (simp only [wnA]; done) | (simp only [wnA]; omega) | omega | fail) [wkA, retV, stabOk, dC, ev, fillD, pickCells, putAt, bnd, slD, List.getElem?_cons_zero, List.getElem?_cons_succ, dR.eq_20, Mem.cell, Mem.row, wmA, gp, faultV]
    refine go ⟨k, some e⟩ _ M (by show k < _; omega) ?_ oM.kept pM rfl rfl (by simp [frA_at]) (by simp) (by simp)
    rw [hfl]
    split <;> rfl
  | none =>
    have gp : M.get ip = .own [.slice (some ⟨it, 0, none⟩) ts.length 4, .int .i64 (k : Int), .nilIface] 84 := pM.1
    simp -implicitDefEqProofs (disch := first | assumption | (simp only [wnA]; done) | (simp only [wnA]; omega) | omega | fail) [wkA, retV, stabOk, dC, ev, fillD, pickCells, putAt, bnd, slD, List.getElem?_cons_zero, List.getElem?_cons_succ, dR.eq_20, Mem.cell, Mem.row, wmA, gp]
    refine c_is pM hk hl fun m2 o2 => ?_
    rw [hisF]
    have p2 := pM.old o2
    have e6 := o2.2 m.next (by omega)
    have e7 := o2.2 (m.next + 1) (by omega)
    cases hm : misfit ⟨kd0, tx0, vl0⟩ kd tx with
    | false =>
      simp -implicitDefEqProofs (disch := first | assumption | (simp only [wnA]; done) | (simp only [wnA]; omega) | omega | fail) [wkA, retV, stabOk, dC, ev, fillD, pickCells, putAt, bnd, slD, List.getElem?_cons_zero, List.getElem?_cons_succ, dR.eq_20, Mem.cell, Mem.row, wmA, hm]
      exact go ⟨k, none⟩ _ m2 (by show k < _; omega) (by rw [hm]; rfl) (oM.trans o2).kept p2 e6 e7 (by simp [frA_at]) (by simp) (by simp)
    | true =>
      have g72 := e7.trans g7
      have gp2 := p2.1
      simp -implicitDefEqProofs (disch := first | assumption | (simp only [wnA]; done) | (simp only [wnA]; omega) | omega | fail) [wkA, retV, stabOk, dC, ev, fillD, pickCells, putAt, bnd, slD, List.getElem?_cons_zero, List.getElem?_cons_succ, dR.eq_20, Mem.cell, Mem.row, wmA, hm, g72]
      refine c_Wrap ?_
      simp -implicitDefEqProofs (disch := first | assumption | (simp only [wnA]; done) | (simp only [wnA]; omega) | omega | fail) [wkA, retV, stabOk, dC, ev, fillD, pickCells, putAt, bnd, slD, List.getElem?_cons_zero, List.getElem?_cons_succ, dR.eq_20, Mem.cell, Mem.row, wmA]
      refine SK_stv (i := ip) (o := 2) (vs := [faultV 2 at0]) (e := 84) (by simp [wkA, retV, stabOk, dC, ev, fillD, pickCells, putAt, bnd, slD, List.getElem?_cons_zero, List.getElem?_cons_succ, dR.eq_20]) gp2 (by simp [wkA, retV, stabOk, dC, ev, fillD, pickCells, putAt, bnd, slD, List.getElem?_cons_zero, List.getElem?_cons_succ, dR.eq_20, faultV]) (by simp) rfl rfl ?_
      have gpn : putAt [.slice (some ⟨it, 0, none⟩) ts.length 4, .int .i64 (k : Int), errV none] 2 [faultV 2 at0] = [.slice (some ⟨it, 0, none⟩) ts.length 4, .int .i64 (k : Int), faultV 2 at0] := rfl
      obtain ⟨M3, hM3⟩ : ∃ M3, m2.set ip (.own (putAt [.slice (some ⟨it, 0, none⟩) ts.length 4, .int .i64 (k : Int), errV none] 2 [faultV 2 at0]) 84) = M3 := ⟨_, rfl⟩
      have K3 : Kept ip m2 M3 := by subst hM3; exact ⟨Nat.le_refl _, fun i hi hn => Mem.set_other _ _ hn⟩
      have p3 : PsAt M3 ip it ts ⟨k, some (2, at0)⟩ := by
        subst hM3
        exact ⟨by rw [Mem.set_same]; rfl, by rw [Mem.set_other _ _ (fun e => p2.2.2.2.2 e.symm)]; exact p2.2.1, p2.2.2.1, p2.2.2.2.1, p2.2.2.2.2⟩
      rw [hM3]
      simp -implicitDefEqProofs (disch := first | assumption | (simp only [wnA]; done) | (simp only [wnA]; omega) | omega | fail) [wkA, retV, stabOk, dC, ev, fillD, pickCells, putAt, bnd, slD, List.getElem?_cons_zero, List.getElem?_cons_succ, dR.eq_20, Mem.cell, Mem.row, wmA]
      exact go ⟨k, some (2, at0)⟩ _ M3 (by show k < _; omega) (by rw [hm, hfl]; rfl) ((oM.trans o2).kept.trans K3) p3 (by rw [K3.2 _ (by have := o2.1; omega) (by omega), e6]) (by rw [K3.2 _ (by have := o2.1; omega) (by omega), e7]) (by simp [frA_at]) (by simp) (by simp)
end Go.Proofs.YtjlicambfepfiaaGreatDoor.Ab

set_option linter.unusedVariables false
set_option linter.unusedSimpArgs false
namespace Go.Proofs.YtjlicambfepfiaaGreatDoor.Ab
open Go Go.RowKit
set_option maxHeartbeats 4000000
set_option maxRecDepth 100000

theorem failF_k (ts : List (Tk × Nat)) (no : Nat) (s : PS) : (failF ts no s).k = s.k := by unfold failF; cases s.err <;> rfl

/-- The last token is the text's end. -/
def EndOk (ts : List (Tk × Nat)) : Prop := (ts.getD (ts.length - 1) tok0).1.kd = 0
theorem takeF_k {ts : List (Tk × Nat)} {kd : Int} {tx : List UInt8} {s : PS} (he : EndOk ts) (hk : s.k < ts.length) (h0 : kd ≠ 0) : (takeF ts kd tx s).2.k < ts.length := by
  rw [takeF_eq]
  unfold takeR
  split
  · split
    · rw [failF_k]; exact hk
    · exact hk
  · rename_i h
    split at h
    · exfalso
      unfold failF at h
      split at h
      · rename_i e he'; rw [he'] at h; cases h
      · cases h
    · rename_i hm
      rw [if_neg hm]
      have hkd : (ts.getD s.k tok0).1.kd = kd := by
        rcases Classical.em ((ts.getD s.k tok0).1.kd = kd) with h | h
        · exact h
        · exact absurd (show misfit (ts.getD s.k tok0).1 kd tx = true by unfold misfit; rw [bneT h]; rfl) hm
      have : s.k ≠ ts.length - 1 := fun e => h0 (by rw [← hkd, e]; exact he)
      show s.k + 1 < ts.length
      omega

theorem cellP_mk (kd : Int) (tx : List UInt8) (vl : Int) (a : Nat) : cellP (⟨kd, tx, vl⟩, a) = [.int .i64 kd, .string ⟨⟨tx⟩⟩, .int .i64 vl, .int .i64 (a : Int)] := rfl

theorem step_set {base m : Mem} {ip it i3 : Nat} {ts : List (Tk × Nat)} {s : PS} {x : Ent} (KB : Kept ip base m) (p : PsAt m ip it ts s) (h3 : base.next ≤ i3) (hip : ip < base.next) (hit : it < base.next) :
    ∃ M, m.set i3 x = M ∧ Kept ip base M ∧ PsAt M ip it ts s ∧ M.get i3 = x ∧ (∀ i, i ≠ i3 → M.get i = m.get i) ∧ M.next = m.next :=
  ⟨_, rfl, ⟨KB.1, fun i hi hn => by rw [Mem.set_other _ _ (by omega)]; exact KB.2 i hi hn⟩, ⟨by rw [Mem.set_other _ _ (by omega)]; exact p.1, by rw [Mem.set_other _ _ (by omega)]; exact p.2.1, p.2.2.1, p.2.2.2.1, p.2.2.2.2⟩, by rw [Mem.set_same], fun i hi => Mem.set_other _ _ hi, rfl⟩
theorem step_new {base m : Mem} {ip it : Nat} {ts : List (Tk × Nat)} {s : PS} {x z : Ent} (KB : Kept ip base m) (p : PsAt m ip it ts s) (hip : ip < base.next) (hit : it < base.next) :
    ∃ M, (m.push z).set m.next x = M ∧ Kept ip base M ∧ PsAt M ip it ts s ∧ M.get m.next = x ∧ (∀ i, i < m.next → M.get i = m.get i) ∧ M.next = m.next + 1 := by
  have KB' : Kept ip base (m.push z) := ⟨by have := KB.1; simp; omega, fun i hi hn => by rw [Mem.push_old _ _ (by have := KB.1; omega)]; exact KB.2 i hi hn⟩
  have p' : PsAt (m.push z) ip it ts s := p.old ((Old.refl m).push _)
  obtain ⟨M, h1, h2, h3, h4, h5, h6⟩ := step_set (x := x) (i3 := m.next) KB' p' KB.1 hip hit
  exact ⟨M, h1, h2, h3, h4, fun i hi => by rw [h5 i (by omega), Mem.push_old _ _ hi], h6⟩

theorem takeF_none {ts : List (Tk × Nat)} {kd : Int} {tx : List UInt8} {s : PS} (h : (takeF ts kd tx s).2.err = none) : s.err = none ∧ misfit (ts.getD s.k tok0).1 kd tx = false ∧ takeF ts kd tx s = (ts.getD s.k tok0, ⟨s.k + 1, none⟩) := by
  rw [takeF_eq] at h ⊢
  obtain ⟨k, err⟩ := s
  cases hm : misfit (ts.getD k tok0).1 kd tx with
  | true =>
    simp only [hm, if_true] at h
    exfalso
    cases err <;> simp [failF, takeR] at h
  | false =>
    simp only [hm] at h ⊢
    cases err with
    | some e => simp [takeR] at h
    | none => exact ⟨rfl, trivial, by simp [takeR]⟩
theorem takeF_fit {ts : List (Tk × Nat)} {kd : Int} {tx : List UInt8} {k : Nat} (h : misfit (ts.getD k tok0).1 kd tx = false) : takeF ts kd tx ⟨k, none⟩ = (ts.getD k tok0, ⟨k + 1, none⟩) := by
  rw [takeF_eq]
  show takeR (ts.getD k tok0) (if misfit (ts.getD k tok0).1 kd tx = true then _ else _) = _
  rw [h]
  rfl

theorem kept_old {ip : Nat} {b m : Mem} (h : Kept ip b m) : Old (b.set ip (m.get ip)) m :=
  ⟨h.1, fun i hi => by
    rcases Classical.em (i = ip) with e | e
    · subst e; rw [Mem.set_same]
    · rw [Mem.set_other _ _ e]; exact h.2 i hi e⟩
theorem SK_appP {P : Program} {w0 : World} {ts : Fr} {m base : Mem} {R : Value → Mem → Prop} {e sz bytes n k : Nat} {ob : Option Nat} {cs ys : List Value} {x y : Operand} (hb : Old base m) (h : SlO m e sz ob cs n) (hob : ∀ b, ob = some b → base.next ≤ b)
    (hx : ev ts x = slV ob n sz) (hy : elemsV m sz (ev ts y) = some ys) (hk : lenV (ev ts y) = k) (hpos : 0 < k) (h1 : ys.all oneC = true) (h2 : (n + k) * bytes ≤ 140737488355328) (h3 : n + k ≤ maxLen) (hl : ys.length = k * sz)
    (hR : ∀ ob' m', Old base m' → SlO m' e sz ob' (cs ++ ys) (n + k) → (∀ b, ob' = some b → base.next ≤ b) → R (slV ob' (n + k) sz) m') : SK P w0 (.e (.app e sz bytes x y)) ts m R := by
  refine SK_ap h hx hy hk hpos h1 h2 h3 hl (hR _ _ ((hb.kill hob).push _) (SlO.new ?_) ?_)
  · rw [List.length_append, h.1, hl, Nat.add_mul]
  · intro b hb'; cases hb'; exact hb.1

theorem misfit_kd {t : Tk} {kd : Int} {tx : List UInt8} (h : misfit t kd tx = false) : t.kd = kd := by
  rcases Classical.em (t.kd = kd) with e | e
  · exact e
  · rw [misfit, bneT e] at h; cases h

def tkF (ts : List (Tk × Nat)) (k : Nat) : Tk := (ts.getD k tok0).1
/-- A number from 1 up to some. -/
def numR (most : Int) (r : (Tk × Nat) × PS) : PS := match r.2.err with
  | some e => r.2
  | none => if r.1.1.vl < 1 ∨ most < r.1.1.vl then ⟨r.2.k, some (5, r.1.2)⟩ else r.2
def numF (most : Int) (ts : List (Tk × Nat)) (s : PS) : Int × PS := ((takeF ts 2 [] s).1.1.vl, numR most (takeF ts 2 [] s))
def goL : List UInt8 := [103, 111]
def toF (ts : List (Tk × Nat)) (s : PS) : List UInt8 × PS := ((takeF ts 1 [] (takeF ts 1 goL s).2).1.1.tx, (takeF ts 1 [] (takeF ts 1 goL s).2).2)
theorem numR_k (most : Int) (r : (Tk × Nat) × PS) : (numR most r).k = r.2.k := by
  unfold numR
  split
  · rfl
  · split <;> rfl
theorem numF_k {most : Int} {ts : List (Tk × Nat)} {s : PS} (he : EndOk ts) (hk : s.k < ts.length) : (numF most ts s).2.k < ts.length := by
  show (numR most _).k < _
  rw [numR_k]; exact takeF_k he hk (by decide)
theorem toF_k {ts : List (Tk × Nat)} {s : PS} (he : EndOk ts) (hk : s.k < ts.length) : (toF ts s).2.k < ts.length := takeF_k he (takeF_k he hk (by decide)) (by decide)

theorem c_number {w0 : World} {m : Mem} {ip it : Nat} {ts : List (Tk × Nat)} {most : Int} {s : PS} {Q : Value → Mem → Prop} (h : PsAt m ip it ts s) (hk : s.k < ts.length) (hl : ts.length ≤ 1000000)
    (hq : ∀ m', Kept ip m m' → PsAt m' ip it ts (numF most ts s).2 → Q (.int .i64 (numF most ts s).1) m') : AbC Tryz.prog w0 53 [.pointer (some ⟨ip, 0, none⟩), .int .i64 most] m Q := by
  refine AbC_fn ok53 (by simp) ?_
  simp -implicitDefEqProofs (disch := first | assumption | (simp only [wnA]; done) | (simp only [wnA]; omega) | omega | fail) [rc53, ro53, wkA, retV, stabOk, dC, ev, fillD, pickCells, putAt, bnd, slD, List.getElem?_cons_zero, List.getElem?_cons_succ, dR.eq_20, Mem.cell, Mem.row, wmA]
  refine c_take (kd := 2) (tx := []) h hk hl fun m1 k1 p1 => ?_
  have hq : ∀ m', Kept ip m m' → PsAt m' ip it ts (numR most (takeF ts 2 [] s)) → Q (.int .i64 (takeF ts 2 [] s).1.1.vl) m' := hq
  generalize takeF ts 2 [] s = r at *
  obtain ⟨⟨⟨kd0, tx0, vl0⟩, at0⟩, s1⟩ := r
  simp only at p1 hq
  simp -implicitDefEqProofs (disch := first | assumption | (simp only [wnA]; done) | (simp only [wnA]; omega) | omega | fail) [wkA, retV, stabOk, dC, ev, fillD, pickCells, putAt, bnd, slD, List.getElem?_cons_zero, List.getElem?_cons_succ, dR.eq_20, Mem.cell, Mem.row, wmA, cellP_mk]
  obtain ⟨M, hM⟩ : ∃ M, (m1.push (.own [.int .i64 0, .string ⟨#[]⟩, .int .i64 0, .int .i64 0] 87)).set m1.next (.own (putAt [.int .i64 0, .string ⟨#[]⟩, .int .i64 0, .int .i64 0] 0 [.int .i64 kd0, .string ⟨⟨tx0⟩⟩, .int .i64 vl0, .int .i64 (at0 : Int)]) 87) = M := ⟨_, rfl⟩
  refine SK_stv (i := m1.next) (o := 0) (vs := [.int .i64 kd0, .string ⟨⟨tx0⟩⟩, .int .i64 vl0, .int .i64 (at0 : Int)]) (cs := [.int .i64 0, .string ⟨#[]⟩, .int .i64 0, .int .i64 0]) (e := 87) (by simp [wkA, retV, stabOk, dC, ev, fillD, pickCells, putAt, bnd, slD, List.getElem?_cons_zero, List.getElem?_cons_succ, dR.eq_20]) (by simp -implicitDefEqProofs (disch := first | assumption | (simp only [wnA]; done) | (simp only [wnA]; omega) | omega | fail) [wkA, retV, stabOk, dC, ev, fillD, pickCells, putAt, bnd, slD, List.getElem?_cons_zero, List.getElem?_cons_succ, dR.eq_20, Mem.cell, Mem.row, wmA]) (by simp [wkA, retV, stabOk, dC, ev, fillD, pickCells, putAt, bnd, slD, List.getElem?_cons_zero, List.getElem?_cons_succ, dR.eq_20, cellP_mk]) (by simp) rfl rfl ?_
  rw [hM]
  have oM : Old m1 M := by subst hM; exact ((Old.refl m1).push _).set (Nat.le_refl _) _
  have gM : M.get m1.next = .own [.int .i64 kd0, .string ⟨⟨tx0⟩⟩, .int .i64 vl0, .int .i64 (at0 : Int)] 87 := by subst hM; rw [Mem.set_same]; rfl
  have pM := p1.old oM
  have kM := k1.trans oM.kept
  have gp := pM.1
  obtain ⟨k, err⟩ := s1
  cases err with
  | some e =>
    have gp : M.get ip = .own [.slice (some ⟨it, 0, none⟩) ts.length 4, .int .i64 (k : Int), faultV e.1 e.2] 84 := gp
    simp -implicitDefEqProofs (disch := first | assumption | (simp only [wnA]; done) | (simp only [wnA]; omega) | omega | fail) [wkA, retV, stabOk, dC, ev, fillD, pickCells, putAt, bnd, slD, List.getElem?_cons_zero, List.getElem?_cons_succ, dR.eq_20, Mem.cell, Mem.row, wmA, gp, gM, faultV, rc53_0]
    exact hq M kM pM
  | none =>
    have gp : M.get ip = .own [.slice (some ⟨it, 0, none⟩) ts.length 4, .int .i64 (k : Int), .nilIface] 84 := gp
    have fin : ∀ (fr : Fr), fr 0 = .pointer (some ⟨ip, 0, none⟩) → True := fun _ _ => trivial
    have bad : (vl0 < 1 ∨ most < vl0) → numR most ((⟨kd0, tx0, vl0⟩, at0), ⟨k, none⟩) = ⟨k, some (5, at0)⟩ := fun h => by
      simp only [numR]; rw [if_pos h]
    have good : ¬ (vl0 < 1 ∨ most < vl0) → numR most ((⟨kd0, tx0, vl0⟩, at0), ⟨k, none⟩) = ⟨k, none⟩ := fun h => by
      simp only [numR]; rw [if_neg h]
    have badst : ∃ M3, M.set ip (.own (putAt [.slice (some ⟨it, 0, none⟩) ts.length 4, .int .i64 (k : Int), .nilIface] 2 [faultV 5 at0]) 84) = M3 ∧ Kept ip M M3 ∧ PsAt M3 ip it ts ⟨k, some (5, at0)⟩ ∧ M3.get m1.next = M.get m1.next := by
      refine ⟨_, rfl, ⟨Nat.le_refl _, fun i hi hn => Mem.set_other _ _ hn⟩, ⟨by rw [Mem.set_same]; rfl, by rw [Mem.set_other _ _ (fun e => pM.2.2.2.2 e.symm)]; exact pM.2.1, pM.2.2.1, pM.2.2.2.1, pM.2.2.2.2⟩, ?_⟩
      exact Mem.set_other _ _ (by have := k1.1; have := h.2.2.1; omega)
    obtain ⟨M3, hM3, K3, p3, g3⟩ := badst
    rw [gM] at g3
    have rc : vl0 < 1 ∨ (1 ≤ vl0 ∧ most < vl0) ∨ (1 ≤ vl0 ∧ vl0 ≤ most) := by omega
    rcases rc with c | ⟨c, c2⟩ | ⟨c, c2⟩
    · rw [bad (.inl c)] at hq
      simp -implicitDefEqProofs (disch := first | assumption | (simp only [wnA]; done) | (simp only [wnA]; omega) | omega | fail) [wkA, retV, stabOk, dC, ev, fillD, pickCells, putAt, bnd, slD, List.getElem?_cons_zero, List.getElem?_cons_succ, dR.eq_20, Mem.cell, Mem.row, wmA, gp, gM, ltT c]
      refine c_Wrap ?_
      simp -implicitDefEqProofs (disch := first | assumption | (simp only [wnA]; done) | (simp only [wnA]; omega) | omega | fail) [wkA, retV, stabOk, dC, ev, fillD, pickCells, putAt, bnd, slD, List.getElem?_cons_zero, List.getElem?_cons_succ, dR.eq_20, Mem.cell, Mem.row, wmA]
      refine SK_stv (i := ip) (o := 2) (vs := [faultV 5 at0]) (e := 84) (by simp [wkA, retV, stabOk, dC, ev, fillD, pickCells, putAt, bnd, slD, List.getElem?_cons_zero, List.getElem?_cons_succ, dR.eq_20]) gp (by simp [wkA, retV, stabOk, dC, ev, fillD, pickCells, putAt, bnd, slD, List.getElem?_cons_zero, List.getElem?_cons_succ, dR.eq_20, faultV]) (by simp) rfl rfl ?_
      rw [hM3]
      simp -implicitDefEqProofs (disch := first | assumption | (simp only [wnA]; done) | (simp only [wnA]; omega) | omega | fail) [wkA, retV, stabOk, dC, ev, fillD, pickCells, putAt, bnd, slD, List.getElem?_cons_zero, List.getElem?_cons_succ, dR.eq_20, Mem.cell, Mem.row, wmA, rc53_0, g3]
      exact hq M3 (kM.trans K3) p3
    · rw [bad (.inr c2)] at hq
      simp -implicitDefEqProofs (disch := first | assumption | (simp only [wnA]; done) | (simp only [wnA]; omega) | omega | fail) [wkA, retV, stabOk, dC, ev, fillD, pickCells, putAt, bnd, slD, List.getElem?_cons_zero, List.getElem?_cons_succ, dR.eq_20, Mem.cell, Mem.row, wmA, gp, gM, ltF c, gtT c2]
      refine c_Wrap ?_
      simp -implicitDefEqProofs (disch := first | assumption | (simp only [wnA]; done) | (simp only [wnA]; omega) | omega | fail) [wkA, retV, stabOk, dC, ev, fillD, pickCells, putAt, bnd, slD, List.getElem?_cons_zero, List.getElem?_cons_succ, dR.eq_20, Mem.cell, Mem.row, wmA]
      refine SK_stv (i := ip) (o := 2) (vs := [faultV 5 at0]) (e := 84) (by simp [wkA, retV, stabOk, dC, ev, fillD, pickCells, putAt, bnd, slD, List.getElem?_cons_zero, List.getElem?_cons_succ, dR.eq_20]) gp (by simp [wkA, retV, stabOk, dC, ev, fillD, pickCells, putAt, bnd, slD, List.getElem?_cons_zero, List.getElem?_cons_succ, dR.eq_20, faultV]) (by simp) rfl rfl ?_
      rw [hM3]
      simp -implicitDefEqProofs (disch := first | assumption | (simp only [wnA]; done) | (simp only [wnA]; omega) | omega | fail) [wkA, retV, stabOk, dC, ev, fillD, pickCells, putAt, bnd, slD, List.getElem?_cons_zero, List.getElem?_cons_succ, dR.eq_20, Mem.cell, Mem.row, wmA, rc53_0, g3]
      exact hq M3 (kM.trans K3) p3
    · rw [good (by omega)] at hq
      simp -implicitDefEqProofs (disch := first | assumption | (simp only [wnA]; done) | (simp only [wnA]; omega) | omega | fail) [wkA, retV, stabOk, dC, ev, fillD, pickCells, putAt, bnd, slD, List.getElem?_cons_zero, List.getElem?_cons_succ, dR.eq_20, Mem.cell, Mem.row, wmA, gp, gM, ltF c, gtF c2, rc53_0]
      exact hq M kM pM

theorem c_to {w0 : World} {m : Mem} {ip it : Nat} {ts : List (Tk × Nat)} {s : PS} {Q : Value → Mem → Prop} (h : PsAt m ip it ts s) (hk : s.k < ts.length) (hl : ts.length ≤ 1000000) (hE : EndOk ts)
    (hq : ∀ m', Kept ip m m' → PsAt m' ip it ts (toF ts s).2 → Q (.string ⟨⟨(toF ts s).1⟩⟩) m') : AbC Tryz.prog w0 54 [.pointer (some ⟨ip, 0, none⟩)] m Q := by
  refine AbC_fn ok54 (by simp) ?_
  simp -implicitDefEqProofs (disch := first | assumption | (simp only [wnA]; done) | (simp only [wnA]; omega) | omega | fail) [rc54, ro54, wkA, retV, stabOk, dC, ev, fillD, pickCells, putAt, bnd, slD, List.getElem?_cons_zero, List.getElem?_cons_succ, dR.eq_20, Mem.cell, Mem.row, wmA]
  refine c_take (kd := 1) (tx := goL) h hk hl fun m1 k1 p1 => ?_
  have hk1 := takeF_k (kd := 1) (tx := goL) hE hk (by decide)
  simp -implicitDefEqProofs (disch := first | assumption | (simp only [wnA]; done) | (simp only [wnA]; omega) | omega | fail) [wkA, retV, stabOk, dC, ev, fillD, pickCells, putAt, bnd, slD, List.getElem?_cons_zero, List.getElem?_cons_succ, dR.eq_20, Mem.cell, Mem.row, wmA]
  refine c_take (kd := 1) (tx := []) p1 hk1 hl fun m2 k2 p2 => ?_
  have hq := hq m2 (k1.trans k2) p2
  unfold toF at hq
  generalize takeF ts 1 [] (takeF ts 1 goL s).2 = r at *
  obtain ⟨⟨⟨kd0, tx0, vl0⟩, at0⟩, s1⟩ := r
  simp -implicitDefEqProofs (disch := first | assumption | (simp only [wnA]; done) | (simp only [wnA]; omega) | omega | fail) [wkA, retV, stabOk, dC, ev, fillD, pickCells, putAt, bnd, slD, List.getElem?_cons_zero, List.getElem?_cons_succ, dR.eq_20, Mem.cell, Mem.row, wmA, cellP_mk]
  exact hq
end Go.Proofs.YtjlicambfepfiaaGreatDoor.Ab

set_option linter.unusedVariables false
set_option linter.unusedSimpArgs false
namespace Go.Proofs.YtjlicambfepfiaaGreatDoor.Ab
open Go Go.RowKit
set_option maxHeartbeats 4000000
set_option maxRecDepth 100000

structure Arm where
  pat : List UInt8
  to : List UInt8
def Arm.cells (a : Arm) : List Value := [.string ⟨⟨a.pat⟩⟩, .string ⟨⟨a.to⟩⟩]
theorem arl (a : Arm) : a.cells.length = 2 := rfl
def armF (ts : List (Tk × Nat)) (s : PS) : Arm × PS := (⟨(takeF ts 3 [] s).1.1.tx, (toF ts (takeF ts 3 [] s).2).1⟩, (toF ts (takeF ts 3 [] s).2).2)
def armsF : Nat → List (Tk × Nat) → PS → List Arm → List Arm × PS
  | 0, _, s, out => (out, s)
  | n + 1, ts, s, out => match s.err with
    | some e => (out, s)
    | none => if isF ts 4 [44] (armF ts s).2 = true then armsF n ts ⟨(armF ts s).2.k + 1, (armF ts s).2.err⟩ (out ++ [(armF ts s).1]) else (out ++ [(armF ts s).1], (armF ts s).2)
def armsL (ts : List (Tk × Nat)) (s : PS) : List Arm × PS := armsF ts.length ts s []
theorem armF_k {ts : List (Tk × Nat)} {s : PS} (he : EndOk ts) (hk : s.k < ts.length) : (armF ts s).2.k < ts.length := toF_k he (takeF_k he hk (by decide))
theorem takeF_ge (ts : List (Tk × Nat)) (kd : Int) (tx : List UInt8) (s : PS) : s.k ≤ (takeF ts kd tx s).2.k := by
  rw [takeF_eq]
  unfold takeR
  split
  · split
    · rw [failF_k]; exact Nat.le_refl _
    · exact Nat.le_refl _
  · show s.k ≤ (if misfit (ts.getD s.k tok0).1 kd tx = true then failF ts 2 s else s).k + 1
    split
    · rw [failF_k]; omega
    · omega
theorem armF_ge (ts : List (Tk × Nat)) (s : PS) : s.k ≤ (armF ts s).2.k :=
  Nat.le_trans (takeF_ge _ _ _ _) (Nat.le_trans (takeF_ge _ _ _ _) (takeF_ge _ _ _ _))
theorem isF_k {ts : List (Tk × Nat)} {kd : Int} {tx : List UInt8} {s : PS} (he : EndOk ts) (hk : s.k < ts.length) (h0 : kd ≠ 0) (h : isF ts kd tx s = true) : s.err = none ∧ s.k + 1 < ts.length ∧ misfit (ts.getD s.k tok0).1 kd tx = false := by
  unfold isF at h
  simp only [Bool.and_eq_true, Option.isNone_iff_eq_none, Bool.not_eq_true'] at h
  refine ⟨h.1, ?_, h.2⟩
  have hkd := misfit_kd h.2
  have : s.k ≠ ts.length - 1 := fun e => h0 (by rw [← hkd, e]; exact he)
  omega

theorem c_arms {w0 : World} {m : Mem} {ip it : Nat} {ts : List (Tk × Nat)} {s : PS} {Q : Value → Mem → Prop} (h : PsAt m ip it ts s) (hk : s.k < ts.length) (hl : ts.length ≤ 1000000) (hE : EndOk ts)
    (hq : ∀ m' ob, Kept ip m m' → PsAt m' ip it ts (armsL ts s).2 → SlO m' 49 2 ob ((armsL ts s).1.flatMap Arm.cells) (armsL ts s).1.length → (∀ i, ob = some i → m.next ≤ i) → (armsL ts s).1.length ≤ ts.length → Q (slV ob (armsL ts s).1.length 2) m') :
    AbC Tryz.prog w0 52 [.pointer (some ⟨ip, 0, none⟩)] m Q := by
  refine AbC_fn ok52 (by simp) ?_
  have hip := h.2.2.1
  have hit := h.2.2.2.1
  simp -implicitDefEqProofs (disch := first | assumption | (simp only [wnA]; done) | (simp only [wnA]; omega) | omega | fail) [rc52, ro52, wkA, retV, stabOk, dC, ev, fillD, pickCells, putAt, bnd, slD, List.getElem?_cons_zero, List.getElem?_cons_succ, dR.eq_20, Mem.cell, Mem.row, wmA]
  refine LoopW_of (fun n fr m' => ∃ s' out ob more, s'.k < ts.length ∧ (more = true → armsF n ts s' out = armsL ts s ∧ (s'.err = none → ts.length - s'.k ≤ n)) ∧ (more = false → (out, s') = armsL ts s) ∧ Kept ip m m' ∧ PsAt m' ip it ts s' ∧ SlO m' 49 2 ob (out.flatMap Arm.cells) out.length ∧ (∀ i, ob = some i → m.next ≤ i) ∧ ((more = true → out.length ≤ s'.k) ∧ out.length ≤ ts.length) ∧ fr 0 = .pointer (some ⟨ip, 0, none⟩) ∧ fr 3 = slV ob out.length 2 ∧ fr 4 = .bool more) ts.length ?_ ?_
  · exact ⟨s, [], none, true, hk, fun _ => ⟨rfl, fun _ => by omega⟩, (fun h => by cases h), Kept.refl _ _, h, ⟨rfl, rfl⟩, (fun i h => by cases h), ⟨fun _ => Nat.zero_le _, Nat.zero_le _⟩, by simp [frA_at], by simp; rfl, by simp⟩
  · rintro n fr m1 K ⟨s1, out, ob, more, hk1, hm1, hm2, k1, p1, so, hob, ⟨hol, hol2⟩, f0, f3, f4⟩ hK
    have stop : (out, s1) = armsL ts s → Q (slV ob out.length 2) m1 := fun he => by
      have hq := hq m1 ob k1
      rw [← he] at hq
      exact hq p1 so hob hol2
    obtain ⟨k, err⟩ := s1
    have hk1 : k < ts.length := hk1
    cases more with
    | false =>
      have hq := stop (hm2 rfl)
      simp -implicitDefEqProofs (disch := first | assumption | (simp only [wnA]; done) | (simp only [wnA]; omega) | omega | fail) [wkA, retV, stabOk, dC, ev, fillD, pickCells, putAt, bnd, slD, List.getElem?_cons_zero, List.getElem?_cons_succ, dR.eq_20, Mem.cell, Mem.row, wmA, rc52_1, rc52_2, f3, f4]
      exact hq
    | true =>
      obtain ⟨ha, hn⟩ := hm1 rfl
      cases err with
      | some e =>
        have gp : m1.get ip = .own [.slice (some ⟨it, 0, none⟩) ts.length 4, .int .i64 (k : Int), faultV e.1 e.2] 84 := p1.1
        have hq := stop (by rw [← ha]; cases n <;> rfl)
        simp -implicitDefEqProofs (disch := first | assumption | (simp only [wnA]; done) | (simp only [wnA]; omega) | omega | fail) [wkA, retV, stabOk, dC, ev, fillD, pickCells, putAt, bnd, slD, List.getElem?_cons_zero, List.getElem?_cons_succ, dR.eq_20, Mem.cell, Mem.row, wmA, rc52_1, rc52_2, f0, f3, f4, gp, faultV]
        exact hq
      | none =>
        have gp : m1.get ip = .own [.slice (some ⟨it, 0, none⟩) ts.length 4, .int .i64 (k : Int), .nilIface] 84 := p1.1
        have hn : ts.length - k ≤ n := hn rfl
        obtain ⟨n, rfl⟩ : ∃ n', n = n' + 1 := ⟨n - 1, by omega⟩
        simp -implicitDefEqProofs (disch := first | assumption | (simp only [wnA]; done) | (simp only [wnA]; omega) | omega | fail) [wkA, retV, stabOk, dC, ev, fillD, pickCells, putAt, bnd, slD, List.getElem?_cons_zero, List.getElem?_cons_succ, dR.eq_20, Mem.cell, Mem.row, wmA, rc52_1, rc52_0, f0, f4, gp]
        refine c_take (kd := 3) (tx := []) p1 hk1 hl fun m2 k2 p2 => ?_
        have hk2 := takeF_k (kd := 3) (tx := []) (s := ⟨k, none⟩) hE hk1 (by decide)
        have hae : armsF (n + 1) ts ⟨k, none⟩ out = (if isF ts 4 [44] (armF ts ⟨k, none⟩).2 = true then armsF n ts ⟨(armF ts ⟨k, none⟩).2.k + 1, (armF ts ⟨k, none⟩).2.err⟩ (out ++ [(armF ts ⟨k, none⟩).1]) else (out ++ [(armF ts ⟨k, none⟩).1], (armF ts ⟨k, none⟩).2)) := rfl
        have hak := armF_k (s := ⟨k, none⟩) hE hk1
        have hag := armF_ge ts ⟨k, none⟩
        rw [hae] at ha
        clear hae
        unfold armF at ha hak hag
        generalize takeF ts 3 [] ⟨k, none⟩ = r at *
        obtain ⟨⟨⟨kd0, tx0, vl0⟩, at0⟩, s2⟩ := r
        simp only at p2 hk2 ha hak hag
        simp -implicitDefEqProofs (disch := first | assumption | (simp only [wnA]; done) | (simp only [wnA]; omega) | omega | fail) [wkA, retV, stabOk, dC, ev, fillD, pickCells, putAt, bnd, slD, List.getElem?_cons_zero, List.getElem?_cons_succ, dR.eq_20, Mem.cell, Mem.row, wmA, cellP_mk]
        obtain ⟨M, hM⟩ : ∃ M, (m2.push (.own [.string ⟨#[]⟩, .string ⟨#[]⟩] 49)).set m2.next (.own (putAt [.string ⟨#[]⟩, .string ⟨#[]⟩] 0 [.string ⟨⟨tx0⟩⟩, .string ⟨#[]⟩]) 49) = M := ⟨_, rfl⟩
        refine SK_stv (i := m2.next) (o := 0) (vs := [.string ⟨⟨tx0⟩⟩, .string ⟨#[]⟩]) (cs := [.string ⟨#[]⟩, .string ⟨#[]⟩]) (e := 49) (by simp [wkA, retV, stabOk, dC, ev, fillD, pickCells, putAt, bnd, slD, List.getElem?_cons_zero, List.getElem?_cons_succ, dR.eq_20]) (by simp -implicitDefEqProofs (disch := first | assumption | (simp only [wnA]; done) | (simp only [wnA]; omega) | omega | fail) [wkA, retV, stabOk, dC, ev, fillD, pickCells, putAt, bnd, slD, List.getElem?_cons_zero, List.getElem?_cons_succ, dR.eq_20, Mem.cell, Mem.row, wmA]) (by simp [wkA, retV, stabOk, dC, ev, fillD, pickCells, putAt, bnd, slD, List.getElem?_cons_zero, List.getElem?_cons_succ, dR.eq_20, cellP_mk]) (by simp) rfl rfl ?_
        rw [hM]
        have oM : Old m2 M := by subst hM; exact ((Old.refl m2).push _).set (Nat.le_refl _) _
        have gM : M.get m2.next = .own [.string ⟨⟨tx0⟩⟩, .string ⟨#[]⟩] 49 := by subst hM; rw [Mem.set_same]; rfl
        have nM : m2.next < M.next := by subst hM; simp
        clear hM
        simp -implicitDefEqProofs (disch := first | assumption | (simp only [wnA]; done) | (simp only [wnA]; omega) | omega | fail) [wkA, retV, stabOk, dC, ev, fillD, pickCells, putAt, bnd, slD, List.getElem?_cons_zero, List.getElem?_cons_succ, dR.eq_20, Mem.cell, Mem.row, wmA, f0]
        refine c_to (p2.old oM) hk2 hl hE fun m3 k3 p3 => ?_
        have hn2 : m2.next ≠ ip := by have := k1.1; have := k2.1; omega
        have g3 := (k3.2 m2.next nM hn2).trans gM
        have n3 : m2.next < m3.next := Nat.lt_of_lt_of_le nM k3.1
        generalize toF ts s2 = u at *
        obtain ⟨txt, s3⟩ := u
        simp only at p3 ha hak hag
        simp -implicitDefEqProofs (disch := first | assumption | (simp only [wnA]; done) | (simp only [wnA]; omega) | omega | fail) [wkA, retV, stabOk, dC, ev, fillD, pickCells, putAt, bnd, slD, List.getElem?_cons_zero, List.getElem?_cons_succ, dR.eq_20, Mem.cell, Mem.row, wmA]
        obtain ⟨M4, hM4⟩ : ∃ M, m3.set m2.next (.own (putAt [.string ⟨⟨tx0⟩⟩, .string ⟨#[]⟩] 1 [.string ⟨⟨txt⟩⟩]) 49) = M := ⟨_, rfl⟩
        refine SK_stv (i := m2.next) (o := 1) (vs := [.string ⟨⟨txt⟩⟩]) (e := 49) (by simp [wkA, retV, stabOk, dC, ev, fillD, pickCells, putAt, bnd, slD, List.getElem?_cons_zero, List.getElem?_cons_succ, dR.eq_20]) g3 (by simp [wkA, retV, stabOk, dC, ev, fillD, pickCells, putAt, bnd, slD, List.getElem?_cons_zero, List.getElem?_cons_succ, dR.eq_20]) (by simp) rfl rfl ?_
        rw [hM4]
        have km0 : Kept ip m m3 := (k1.trans k2).trans (oM.kept.trans k3)
        have o4 : Kept ip m M4 ∧ M4.next = m3.next ∧ (∀ i, i ≠ m2.next → M4.get i = m3.get i) := by
          subst hM4
          refine ⟨⟨km0.1, fun i hi hn => ?_⟩, rfl, fun i hi => Mem.set_other _ _ hi⟩
          rw [Mem.set_other _ _ (by have := k1.1; have := k2.1; omega)]
          exact km0.2 i hi hn
        have g4 : M4.get m2.next = .own [.string ⟨⟨tx0⟩⟩, .string ⟨⟨txt⟩⟩] 49 := by subst hM4; rw [Mem.set_same]; rfl
        clear hM4
        simp -implicitDefEqProofs (disch := first | assumption | (simp only [wnA]; done) | (simp only [wnA]; omega) | omega | fail) [wkA, retV, stabOk, dC, ev, fillD, pickCells, putAt, bnd, slD, List.getElem?_cons_zero, List.getElem?_cons_succ, dR.eq_20, Mem.cell, Mem.row, wmA, f3, g4]
        rw [SK_bsl (cs := [.string ⟨⟨tx0⟩⟩, .string ⟨⟨txt⟩⟩]) (by simp [wkA, retV, stabOk, dC, ev, fillD, pickCells, putAt, bnd, slD, List.getElem?_cons_zero, List.getElem?_cons_succ, dR.eq_20]) (by simp)]
        obtain ⟨m5, hm5⟩ : ∃ m5, M4.push (.own [.string ⟨⟨tx0⟩⟩, .string ⟨⟨txt⟩⟩] 49) = m5 := ⟨_, rfl⟩
        have o5 : Old M4 m5 := by subst hm5; exact (Old.refl M4).push _
        have g5 : m5.get M4.next = .own [.string ⟨⟨tx0⟩⟩, .string ⟨⟨txt⟩⟩] 49 := by subst hm5; rw [Mem.push_same]
        rw [hm5]
        clear hm5
        have p5 : PsAt m5 ip it ts s3 := by
          have p4 : PsAt M4 ip it ts s3 := ⟨by rw [o4.2.2 ip (fun e => hn2 e.symm)]; exact p3.1, by rw [o4.2.2 it (by have := k1.1; have := k2.1; omega)]; exact p3.2.1, by rw [o4.2.1]; exact p3.2.2.1, by rw [o4.2.1]; exact p3.2.2.2.1, p3.2.2.2.2⟩
          exact p4.old o5
        have K5 : Kept ip m m5 := o4.1.trans o5.kept
        have hlt : ∀ j, ob = some j → j < m1.next ∧ j ≠ ip := fun j hj => ⟨by subst hj; exact so.lt, by have := hob j hj; omega⟩
        have s5 : SlO m5 49 2 ob (out.flatMap Arm.cells) out.length := so.keep (by have := k2.1; have := oM.1; have := k3.1; have := o4.2.1; have := o5.1; omega) fun j hj => by
          obtain ⟨h1, h2⟩ := hlt j hj
          have e1 := k2.1
          have e2 := oM.1
          have e3 := k3.1
          have e4 := o4.2.1
          rw [o5.2 j (by omega), o4.2.2 j (by omega), k3.2 j (by omega) h2, oM.2 j (by omega), k2.2 j h1 h2]
        simp -implicitDefEqProofs (disch := first | assumption | (simp only [wnA]; done) | (simp only [wnA]; omega) | omega | fail) [wkA, retV, stabOk, dC, ev, fillD, pickCells, putAt, bnd, slD, List.getElem?_cons_zero, List.getElem?_cons_succ, dR.eq_20, Mem.cell, Mem.row, wmA, f3]
        refine SK_appP (base := m.set ip (m5.get ip)) (ob := ob) (n := out.length) (k := 1) (cs := out.flatMap Arm.cells) (ys := [.string ⟨⟨tx0⟩⟩, .string ⟨⟨txt⟩⟩]) (kept_old K5) s5 hob (by simp [wkA, retV, stabOk, dC, ev, fillD, pickCells, putAt, bnd, slD, List.getElem?_cons_zero, List.getElem?_cons_succ, dR.eq_20]) (by simp -implicitDefEqProofs (disch := first | assumption | (simp only [wnA]; done) | (simp only [wnA]; omega) | omega | fail) [wkA, retV, stabOk, dC, ev, fillD, pickCells, putAt, bnd, slD, List.getElem?_cons_zero, List.getElem?_cons_succ, dR.eq_20, elemsV, Mem.cell, Mem.row, wmA, g5]) (by simp [wkA, retV, stabOk, dC, ev, fillD, pickCells, putAt, bnd, slD, List.getElem?_cons_zero, List.getElem?_cons_succ, dR.eq_20]) (by omega) rfl (by omega) (by simp only [maxLen]; omega) rfl fun ob' m6 o6 s6 hob6 => ?_
        have K6 : Kept ip m m6 := ⟨o6.1, fun i hi hn => by rw [o6.2 i hi, Mem.set_other _ _ hn]⟩
        have gi : m6.get ip = m5.get ip := by rw [o6.2 ip hip, Mem.set_same]
        have p6 : PsAt m6 ip it ts s3 := by
          obtain ⟨x1, x2, x3, x4, x5⟩ := p5
          have : m.next ≤ m6.next := o6.1
          exact ⟨by rw [gi]; exact x1, by rw [K6.2 it hit (fun e => x5 e.symm), h.2.1], by omega, by omega, x5⟩
        simp -implicitDefEqProofs (disch := first | assumption | (simp only [wnA]; done) | (simp only [wnA]; omega) | omega | fail) [wkA, retV, stabOk, dC, ev, fillD, pickCells, putAt, bnd, slD, List.getElem?_cons_zero, List.getElem?_cons_succ, dR.eq_20, Mem.cell, Mem.row, wmA, f0]
        refine c_is (kd := 4) (tx := [44]) p6 hak hl fun m7 o7 => ?_
        have p7 := p6.old o7
        have K7 := K6.trans o7.kept
        have s7 : SlO m7 49 2 ob' ((out ++ [(⟨tx0, txt⟩ : Arm)]).flatMap Arm.cells) (out.length + 1) := by
          have : (out ++ [(⟨tx0, txt⟩ : Arm)]).flatMap Arm.cells = out.flatMap Arm.cells ++ [.string ⟨⟨tx0⟩⟩, .string ⟨⟨txt⟩⟩] := by simp [Arm.cells]
          rw [this]
          exact s6.keep o7.1 fun j hj => by subst hj; exact o7.2 j s6.lt
        cases hi : isF ts 4 [44] s3 with
        | false =>
          rw [hi] at ha
          simp -implicitDefEqProofs (disch := first | assumption | (simp only [wnA]; done) | (simp only [wnA]; omega) | omega | fail) [wkA, retV, stabOk, dC, ev, fillD, pickCells, putAt, bnd, slD, List.getElem?_cons_zero, List.getElem?_cons_succ, dR.eq_20, Mem.cell, Mem.row, wmA]
          refine hK n _ m7 (by omega) ⟨s3, out ++ [⟨tx0, txt⟩], ob', false, hak, (fun h => by cases h), fun _ => ha, K7, p7, by simpa using s7, hob6, ⟨(fun h => by cases h), ?_⟩, by simp [f0], by simp, by simp⟩
          have : out.length ≤ k := hol rfl
          simp; omega
        | true =>
          rw [hi, if_pos rfl] at ha
          obtain ⟨e3, hk3, -⟩ := isF_k hE hak (by decide) hi
          obtain ⟨k3', err3⟩ := s3
          have e3 : err3 = none := e3
          subst e3
          have hk3 : k3' + 1 < ts.length := hk3
          have hag : k ≤ k3' := hag
          have gp7 : m7.get ip = .own [.slice (some ⟨it, 0, none⟩) ts.length 4, .int .i64 (k3' : Int), .nilIface] 84 := p7.1
          have w1 : IntKind.i64.wrap ((k3' : Int) + 1) = ((k3' + 1 : Nat) : Int) := by rw [w64 (by omega)]; omega
          simp -implicitDefEqProofs (disch := first | assumption | (simp only [wnA]; done) | (simp only [wnA]; omega) | omega | fail) [wkA, retV, stabOk, dC, ev, fillD, pickCells, putAt, bnd, slD, List.getElem?_cons_zero, List.getElem?_cons_succ, dR.eq_20, Mem.cell, Mem.row, wmA, f0, gp7, w1]
          obtain ⟨M8, hM8⟩ : ∃ M, m7.set ip (.own (putAt [.slice (some ⟨it, 0, none⟩) ts.length 4, .int .i64 (k3' : Int), .nilIface] 1 [.int .i64 ((k3' + 1 : Nat) : Int)]) 84) = M := ⟨_, rfl⟩
          refine SK_stv (i := ip) (o := 1) (vs := [.int .i64 ((k3' + 1 : Nat) : Int)]) (e := 84) (by simp [wkA, retV, stabOk, dC, ev, fillD, pickCells, putAt, bnd, slD, List.getElem?_cons_zero, List.getElem?_cons_succ, dR.eq_20]) gp7 (by simp [wkA, retV, stabOk, dC, ev, fillD, pickCells, putAt, bnd, slD, List.getElem?_cons_zero, List.getElem?_cons_succ, dR.eq_20]) (by simp) rfl rfl ?_
          rw [hM8]
          have K8 : Kept ip m7 M8 := by subst hM8; exact ⟨Nat.le_refl _, fun i hi hn => Mem.set_other _ _ hn⟩
          have p8 : PsAt M8 ip it ts ⟨k3' + 1, none⟩ := by
            subst hM8
            exact ⟨by rw [Mem.set_same]; rfl, by rw [Mem.set_other _ _ (fun e => p7.2.2.2.2 e.symm)]; exact p7.2.1, p7.2.2.1, p7.2.2.2.1, p7.2.2.2.2⟩
          have s8 := s7.keep K8.1 fun j hj => K8.2 j (by subst hj; exact s7.lt) (by have := hob6 j hj; have : m.next ≤ j := this; omega)
          simp -implicitDefEqProofs (disch := first | assumption | (simp only [wnA]; done) | (simp only [wnA]; omega) | omega | fail) [wkA, retV, stabOk, dC, ev, fillD, pickCells, putAt, bnd, slD, List.getElem?_cons_zero, List.getElem?_cons_succ, dR.eq_20, Mem.cell, Mem.row, wmA]
          refine hK n _ M8 (by omega) ⟨⟨k3' + 1, none⟩, out ++ [⟨tx0, txt⟩], ob', true, hk3, fun _ => ⟨ha, fun _ => by show ts.length - (k3' + 1) ≤ n; omega⟩, (fun h => by cases h), K7.trans K8, p8, by simpa using s8, hob6, ⟨fun _ => ?_, ?_⟩, by simp [f0], by simp, by simp⟩
          · have : out.length ≤ k := hol rfl
            simp; omega
          · have : out.length ≤ k := hol rfl
            simp; omega
end Go.Proofs.YtjlicambfepfiaaGreatDoor.Ab

set_option linter.unusedVariables false
set_option linter.unusedSimpArgs false
namespace Go.Proofs.YtjlicambfepfiaaGreatDoor.Ab
open Go Go.RowKit
set_option maxHeartbeats 4000000
set_option maxRecDepth 100000

structure DS where
  lb : List UInt8
  kd : Int
  tx : List UInt8
  arms : List Arm
  n : Int
  to : List UInt8
  pl : Int
def dsC (d : DS) (av : Value) : List Value := [.string ⟨⟨d.lb⟩⟩, .int .i64 d.kd, .string ⟨⟨d.tx⟩⟩, av, .int .i64 d.n, .string ⟨⟨d.to⟩⟩, .int .i64 d.pl]
def ds0 : DS := ⟨[], 0, [], [], 0, [], 0⟩
def sendL : List UInt8 := [115, 101, 110, 100]
def expectL : List UInt8 := [101, 120, 112, 101, 99, 116]
def tryL : List UInt8 := [116, 114, 121]
def doneL : List UInt8 := [100, 111, 110, 101]
def failL : List UInt8 := [102, 97, 105, 108]
def afterL : List UInt8 := [97, 102, 116, 101, 114]
def wordsL : List (List UInt8) := [sendL, expectL, goL, tryL, doneL, failL]
def kindOf (t : List UInt8) : Nat := wordsL.findIdx (· == t)
def headF (ts : List (Tk × Nat)) (s : PS) : List UInt8 × (Tk × Nat) × PS :=
  let r := takeF ts 1 [] s
  if isF ts 4 [58] r.2 = true then (r.1.1.tx, (takeF ts 1 [] ⟨r.2.k + 1, r.2.err⟩).1, (takeF ts 1 [] ⟨r.2.k + 1, r.2.err⟩).2) else ([], r.1, r.2)
def restK (x : Nat) (ts : List (Tk × Nat)) (d : DS) (t : Tk × Nat) (s : PS) : DS × PS :=
  match x with
  | 0 => ({ d with kd := 0, tx := (takeF ts 3 [] s).1.1.tx }, (takeF ts 3 [] s).2)
  | 1 =>
    let a := armsL ts s
    let n := numF 99 ts (takeF ts 1 afterL a.2).2
    ({ d with kd := 1, arms := a.1, n := n.1, to := (toF ts n.2).1 }, (toF ts n.2).2)
  | 2 => ({ d with kd := 2, to := (takeF ts 1 [] s).1.1.tx }, (takeF ts 1 [] s).2)
  | 3 =>
    let n := numF 9 ts s
    ({ d with kd := 3, n := n.1, to := (toF ts n.2).1 }, (toF ts n.2).2)
  | 4 => ({ d with kd := 4 }, s)
  | 5 => ({ d with kd := 5 }, s)
  | k => ({ d with kd := (k : Int) }, match s.err with
    | some e => s
    | none => ⟨s.k, some (3, t.2)⟩)
def restF (ts : List (Tk × Nat)) (d : DS) (t : Tk × Nat) (s : PS) : DS × PS := restK (kindOf t.1.tx) ts d t s
def stepF (ts : List (Tk × Nat)) (s : PS) : DS × PS :=
  let h := headF ts s
  let b := restF ts { ds0 with lb := h.1, pl := (ts.getD s.k tok0).2 } h.2.1 h.2.2
  (b.1, (takeF ts 4 [59] b.2).2)

theorem kindOf_le (t : List UInt8) : kindOf t ≤ 6 := List.findIdx_le_length
theorem c_words {w0 : World} {m : Mem} {Q : Value → Mem → Prop} (hq : Q (.slice (some ⟨m.next, 0, none⟩) 6 1) (m.push (.own (wordsL.map fun w => .string ⟨⟨w⟩⟩) 9))) : AbC Tryz.prog w0 51 [] m Q := by
  refine AbC_fn ok51 (by simp) ?_
  simp -implicitDefEqProofs (disch := first | assumption | (simp only [wnA]; done) | (simp only [wnA]; omega) | omega | fail) [rc51, ro51, wkA, retV, stabOk, dC, ev, fillD, pickCells, putAt, bnd, slD, List.getElem?_cons_zero, List.getElem?_cons_succ, dR.eq_20, Mem.cell, Mem.row, wmA]
  rw [SK_bsl (cs := wordsL.map fun w => .string ⟨⟨w⟩⟩) (by simp [wkA, retV, stabOk, dC, ev, fillD, pickCells, putAt, bnd, slD, List.getElem?_cons_zero, List.getElem?_cons_succ, dR.eq_20, wordsL, sendL, expectL, goL, tryL, doneL, failL]) (by simp [wordsL])]
  simp -implicitDefEqProofs (disch := first | assumption | (simp only [wnA]; done) | (simp only [wnA]; omega) | omega | fail) [wkA, retV, stabOk, dC, ev, fillD, pickCells, putAt, bnd, slD, List.getElem?_cons_zero, List.getElem?_cons_succ, dR.eq_20, Mem.cell, Mem.row, wmA]
  exact hq

theorem w_word {w0 : World} {Q : AQ} {fr : Fr} {m : Mem} {i4 at0 : Nat} {kd0 vl0 : Int} {tx : List UInt8} (g4 : m.get i4 = .own [.int .i64 kd0, .string ⟨⟨tx⟩⟩, .int .i64 vl0, .int .i64 (at0 : Int)] 87) (h4 : i4 < m.next) (e4 : fr 4 = .pointer (some ⟨i4, 0, none⟩)) (e5 : fr 5 = .int .i64 0)
    (hq : ∀ fr' m', Old m m' → (∀ k ∈ [0, 2, 3, 4], fr' k = fr k) → fr' 5 = .int .i64 (kindOf tx : Nat) → Q .normal fr' m') : LoopW (AbW Tryz.prog w0 rc36_1) (inBlockA 0 Q) fr m := by
  have hkl := kindOf_le tx
  refine LoopW_of (fun k ts m' => ∃ j, j + k = 6 ∧ Old m m' ∧ (∀ k ∈ [0, 2, 3, 4], ts k = fr k) ∧ ts 5 = .int .i64 (j : Nat) ∧ j ≤ kindOf tx) 6 ?_ ?_
  · exact ⟨0, rfl, Old.refl m, fun k _ => rfl, e5, Nat.zero_le _⟩
  · rintro k ts m1 K ⟨j, hj, o1, sm, t5, hjk⟩ hK
    have t4 := (sm 4 (by simp)).trans e4
    have g4' := (o1.2 i4 h4).trans g4
    simp -implicitDefEqProofs (disch := first | assumption | (simp only [wnA]; done) | (simp only [wnA]; omega) | omega | fail) [rc36_1, wkA, retV, stabOk, dC, ev, fillD, pickCells, putAt, bnd, slD, List.getElem?_cons_zero, List.getElem?_cons_succ, dR.eq_20, Mem.cell, Mem.row, wmA, t4, t5]
    refine c_words ?_
    have fin : ∀ (ts' : Fr) (m' : Mem), Old m m' → (∀ k ∈ [0, 2, 3, 4], ts' k = ts k) → ts' 5 = .int .i64 (kindOf tx : Nat) → Q .normal ts' m' := fun ts' m' o hs h5 => hq ts' m' o (fun q hq => (hs q hq).trans (sm q hq)) h5
    by_cases h6 : j < 6
    · have i6 : (j : Int) < 6 := by omega
      have hjw : IntKind.i64.wrap ((j : Int) + 1) = ((j + 1 : Nat) : Int) := by rw [w64 (by omega)]; omega
      obtain ⟨m2, hm2⟩ : ∃ m2, m1.push (.own (wordsL.map fun w => .string ⟨⟨w⟩⟩) 9) = m2 := ⟨_, rfl⟩
      have o2 : Old m1 m2 := by subst hm2; exact (Old.refl m1).push _
      have g42 := (o2.2 i4 (by have := o1.1; omega)).trans g4'
      rw [hm2]
      simp -implicitDefEqProofs (disch := first | assumption | (simp only [wnA]; done) | (simp only [wnA]; omega) | omega | fail) [wkA, retV, stabOk, dC, ev, fillD, pickCells, putAt, bnd, slD, List.getElem?_cons_zero, List.getElem?_cons_succ, dR.eq_20, Mem.cell, Mem.row, wmA, i6, t4, t5, g42]
      refine c_words ?_
      obtain ⟨m3, hm3⟩ : ∃ m3, m2.push (.own (wordsL.map fun w => .string ⟨⟨w⟩⟩) 9) = m3 := ⟨_, rfl⟩
      have o3 : Old m2 m3 := by subst hm3; exact (Old.refl m2).push _
      have g43 := (o3.2 i4 (by have := o1.1; have := o2.1; omega)).trans g42
      have gw : m3.get m2.next = .own (wordsL.map fun w => .string ⟨⟨w⟩⟩) 9 := by subst hm3; rw [Mem.push_same]
      rw [hm3]
      have hix : sidx 1 (.slice (some ⟨m2.next, 0, none⟩) 6 1) (.int .i64 (j : Int)) = some (.pointer (some ⟨m2.next, 0 + j * 1, none⟩)) := sidx_at h6
      simp only [Nat.zero_add, Nat.mul_one] at hix
      have hwl : j < wordsL.length := h6
      have hwj : (wordsL.map fun w => (.string ⟨⟨w⟩⟩ : Value))[j]? = some (.string ⟨⟨wordsL[j]⟩⟩) := by simp [List.getElem?_map, List.getElem?_eq_getElem hwl]
      have hfi : kindOf tx = j ↔ (wordsL[j] == tx) = true := by
        constructor
        · intro h
          have hw : List.findIdx (· == tx) wordsL < wordsL.length := by show kindOf tx < 6; omega
          have := List.findIdx_getElem (w := hw)
          have e : List.findIdx (· == tx) wordsL = j := h
          simpa [e] using this
        · intro h
          rcases Nat.lt_or_ge j (kindOf tx) with hlt | hge
          · have := List.not_of_lt_findIdx (p := (· == tx)) (xs := wordsL) (i := j) hlt
            rw [h] at this
            cases this
          · omega
      obtain ⟨W, hW⟩ : ∃ W, wordsL[j] = W := ⟨_, rfl⟩
      rw [hW] at hwj hfi
      generalize (wordsL.map fun w => (.string ⟨⟨w⟩⟩ : Value)) = ws at *
      simp -implicitDefEqProofs (disch := first | assumption | (simp only [wnA]; done) | (simp only [wnA]; omega) | omega | fail) [wkA, retV, stabOk, dC, ev, fillD, pickCells, putAt, bnd, slD, List.getElem?_cons_zero, List.getElem?_cons_succ, dR.eq_20, Mem.cell, Mem.row, wmA, hix, gw, hwj, getL hwj, g43]
      have oo := (o1.trans o2).trans o3
      by_cases hw : W = tx
      · have hk : kindOf tx = j := hfi.2 (by simpa using hw)
        simp -implicitDefEqProofs (disch := first | assumption | (simp only [wnA]; done) | (simp only [wnA]; omega) | omega | fail) [wkA, retV, stabOk, dC, ev, fillD, pickCells, putAt, bnd, slD, List.getElem?_cons_zero, List.getElem?_cons_succ, dR.eq_20, Mem.cell, Mem.row, wmA, hw]
        refine fin _ _ oo (fun q hq => ?_) (by simp [t5, hk])
        simp only [List.mem_cons, List.not_mem_nil, or_false] at hq
        rcases hq with rfl | rfl | rfl | rfl <;> simp
      · have hw2 : (W == tx) = false := by simpa using hw
        have hk : kindOf tx ≠ j := fun e => by rw [hfi.1 e] at hw2; cases hw2
        simp -implicitDefEqProofs (disch := first | assumption | (simp only [wnA]; done) | (simp only [wnA]; omega) | omega | fail) [wkA, retV, stabOk, dC, ev, fillD, pickCells, putAt, bnd, slD, List.getElem?_cons_zero, List.getElem?_cons_succ, dR.eq_20, Mem.cell, Mem.row, wmA, hw, hw2, bne, rc36_0, t5]
        refine hK (k - 1) _ _ (by omega) ⟨j + 1, by omega, oo, fun q hq => ?_, by simp [hjw], by omega⟩
        have := sm q hq
        simp only [List.mem_cons, List.not_mem_nil, or_false] at hq
        rcases hq with rfl | rfl | rfl | rfl <;> simp [this]
    · have i6 : ¬ (j : Int) < 6 := by omega
      have hk : kindOf tx = j := by omega
      simp -implicitDefEqProofs (disch := first | assumption | (simp only [wnA]; done) | (simp only [wnA]; omega) | omega | fail) [wkA, retV, stabOk, dC, ev, fillD, pickCells, putAt, bnd, slD, List.getElem?_cons_zero, List.getElem?_cons_succ, dR.eq_20, Mem.cell, Mem.row, wmA, i6]
      refine fin _ _ (o1.push _) (fun q hq => ?_) (by simp [t5, hk])
      simp only [List.mem_cons, List.not_mem_nil, or_false] at hq
      rcases hq with rfl | rfl | rfl | rfl <;> simp
end Go.Proofs.YtjlicambfepfiaaGreatDoor.Ab

set_option linter.unusedVariables false
set_option linter.unusedSimpArgs false
namespace Go.Proofs.YtjlicambfepfiaaGreatDoor.Ab
open Go Go.RowKit
set_option maxHeartbeats 4000000
set_option maxRecDepth 100000

/-- While a step is read. -/
structure S4 (base m : Mem) (ip it i2 i3 : Nat) (ts : List (Tk × Nat)) (s : PS) (d : DS) (ob : Option Nat) : Prop where
  kb : Kept ip base m
  ps : PsAt m ip it ts s
  sk : s.k < ts.length
  g2 : ∃ z, m.get i2 = .own (dsC ds0 z) 29
  g3 : m.get i3 = .own (dsC d (slV ob d.arms.length 2)) 29
  n2 : base.next ≤ i2
  n3 : base.next ≤ i3
  m2 : i2 < m.next
  m3 : i3 < m.next
  ne : i2 ≠ i3
  so : SlO m 49 2 ob (d.arms.flatMap Arm.cells) d.arms.length
  hob : ∀ i, ob = some i → base.next ≤ i
  al : d.arms.length ≤ ts.length
  hip : ip < base.next
  hit : it < base.next

theorem S4.call {base m m' : Mem} {ip it i2 i3 : Nat} {ts : List (Tk × Nat)} {s s' : PS} {d : DS} {ob : Option Nat} (h : S4 base m ip it i2 i3 ts s d ob) (k : Kept ip m m') (p : PsAt m' ip it ts s') (sk : s'.k < ts.length) : S4 base m' ip it i2 i3 ts s' d ob := by
  have e1 := h.n2
  have e2 := h.n3
  have e3 := h.hip
  refine ⟨h.kb.trans k, p, sk, ?_, ?_, h.n2, h.n3, Nat.lt_of_lt_of_le h.m2 k.1, Nat.lt_of_lt_of_le h.m3 k.1, h.ne, ?_, h.hob, h.al, h.hip, h.hit⟩
  · obtain ⟨z, hz⟩ := h.g2
    exact ⟨z, by rw [k.2 i2 h.m2 (by omega)]; exact hz⟩
  · rw [k.2 i3 h.m3 (by omega)]; exact h.g3
  · refine h.so.keep k.1 fun b hb => ?_
    subst hb
    exact k.2 b h.so.lt (by have := h.hob b rfl; omega)
theorem S4.put {base m : Mem} {ip it i2 i3 : Nat} {ts : List (Tk × Nat)} {s : PS} {d : DS} {ob : Option Nat} (h : S4 base m ip it i2 i3 ts s d ob) {d' : DS} {cs : List Value} (hd : d'.arms = d.arms) (hc : cs = dsC d' (slV ob d'.arms.length 2)) : ∃ M, m.set i3 (.own cs 29) = M ∧ S4 base M ip it i2 i3 ts s d' ob := by
  subst hc
  obtain ⟨M, h1, h2, h3, h4, h5, h6⟩ := step_set (x := .own (dsC d' (slV ob d'.arms.length 2)) 29) h.kb h.ps h.n3 h.hip h.hit
  refine ⟨M, h1, h2, h3, h.sk, ?_, h4, h.n2, h.n3, by rw [h6]; exact h.m2, by rw [h6]; exact h.m3, h.ne, ?_, h.hob, by rw [hd]; exact h.al, h.hip, h.hit⟩
  · rw [h5 i2 h.ne]; exact h.g2
  · rw [hd]
    subst h1
    exact h.so.set (h.so.ne h.g3 (by intro c hc; cases hc)) _
theorem S4.putA {base m : Mem} {ip it i2 i3 : Nat} {ts : List (Tk × Nat)} {s : PS} {d d' : DS} {ob ob' : Option Nat} {cs : List Value} (h : S4 base m ip it i2 i3 ts s d ob) (so : SlO m 49 2 ob' (d'.arms.flatMap Arm.cells) d'.arms.length) (hob : ∀ i, ob' = some i → base.next ≤ i) (al : d'.arms.length ≤ ts.length) (hc : cs = dsC d' (slV ob' d'.arms.length 2)) : ∃ M, m.set i3 (.own cs 29) = M ∧ S4 base M ip it i2 i3 ts s d' ob' := by
  subst hc
  obtain ⟨M, h1, h2, h3, h4, h5, h6⟩ := step_set (x := .own (dsC d' (slV ob' d'.arms.length 2)) 29) h.kb h.ps h.n3 h.hip h.hit
  refine ⟨M, h1, h2, h3, h.sk, ?_, h4, h.n2, h.n3, by rw [h6]; exact h.m2, by rw [h6]; exact h.m3, h.ne, ?_, hob, al, h.hip, h.hit⟩
  · rw [h5 i2 h.ne]; exact h.g2
  · subst h1
    exact so.set (so.ne h.g3 (by intro c hc; cases hc)) _

theorem w_tail {w0 : World} {Q : AQ} {fr : Fr} {base m : Mem} {ip it i2 i3 : Nat} {ts : List (Tk × Nat)} {s : PS} {d : DS} {ob : Option Nat} (h : S4 base m ip it i2 i3 ts s d ob) (hl : ts.length ≤ 1000000) (hE : EndOk ts)
    (f0 : fr 0 = .pointer (some ⟨ip, 0, none⟩)) (f2 : fr 2 = .pointer (some ⟨i2, 0, none⟩)) (f3 : fr 3 = .pointer (some ⟨i3, 0, none⟩))
    (hq : ∀ fr' m', Kept ip base m' → PsAt m' ip it ts (takeF ts 4 [59] s).2 → (takeF ts 4 [59] s).2.k < ts.length → SlO m' 49 2 ob (d.arms.flatMap Arm.cells) d.arms.length → fr' 2 = .pointer (some ⟨i2, 0, none⟩) → m'.get i2 = .own (dsC d (slV ob d.arms.length 2)) 29 → Q .ret fr' m') : AbW Tryz.prog w0 rc36_3 Q fr m := by
  simp -implicitDefEqProofs (disch := first | assumption | (simp only [wnA]; done) | (simp only [wnA]; omega) | omega | fail) [rc36_3, wkA, retV, stabOk, dC, ev, fillD, pickCells, putAt, bnd, slD, List.getElem?_cons_zero, List.getElem?_cons_succ, dR.eq_20, Mem.cell, Mem.row, wmA, f0]
  refine c_take (kd := 4) (tx := [59]) h.ps h.sk hl fun m1 k1 p1 => ?_
  have h1 := h.call k1 p1 (takeF_k hE h.sk (by decide))
  obtain ⟨z, g2⟩ := h1.g2
  have g3 := h1.g3
  obtain ⟨M, hM, KM, pM, gM, oM, nM⟩ := step_set (x := .own (dsC d (slV ob d.arms.length 2)) 29) h1.kb h1.ps h1.n2 h1.hip h1.hit
  have sM : SlO M 49 2 ob (d.arms.flatMap Arm.cells) d.arms.length := by
    subst hM
    exact h1.so.set (h1.so.ne g2 (by intro c hc; cases hc)) _
  have hav : oneC (slV ob d.arms.length 2) = true := by cases ob <;> rfl
  generalize slV ob d.arms.length 2 = av at *
  simp only [dsC] at g2 g3 gM hM
  simp -implicitDefEqProofs (disch := first | assumption | (simp only [wnA]; done) | (simp only [wnA]; omega) | omega | fail) [wkA, retV, stabOk, dC, ev, fillD, pickCells, putAt, bnd, slD, List.getElem?_cons_zero, List.getElem?_cons_succ, dR.eq_20, Mem.cell, Mem.row, wmA, f3, g3]
  refine SK_stv (i := i2) (o := 0) (vs := [.string ⟨⟨d.lb⟩⟩, .int .i64 d.kd, .string ⟨⟨d.tx⟩⟩, av, .int .i64 d.n, .string ⟨⟨d.to⟩⟩, .int .i64 (d.pl : Int)]) (e := 29) (by simp [wkA, retV, stabOk, dC, ev, fillD, pickCells, putAt, bnd, slD, List.getElem?_cons_zero, List.getElem?_cons_succ, dR.eq_20, f2]) g2 (by simp [wkA, retV, stabOk, dC, ev, fillD, pickCells, putAt, bnd, slD, List.getElem?_cons_zero, List.getElem?_cons_succ, dR.eq_20]) (by simp) rfl (by simp only [List.all_cons, List.all_nil, hav]; rfl) ?_
  have hM' : m1.set i2 (.own (putAt [.string ⟨⟨ds0.lb⟩⟩, .int .i64 ds0.kd, .string ⟨⟨ds0.tx⟩⟩, z, .int .i64 ds0.n, .string ⟨⟨ds0.to⟩⟩, .int .i64 (ds0.pl : Int)] 0 [.string ⟨⟨d.lb⟩⟩, .int .i64 d.kd, .string ⟨⟨d.tx⟩⟩, av, .int .i64 d.n, .string ⟨⟨d.to⟩⟩, .int .i64 (d.pl : Int)]) 29) = M := hM
  rw [hM']
  simp -implicitDefEqProofs (disch := first | assumption | (simp only [wnA]; done) | (simp only [wnA]; omega) | omega | fail) [wkA, retV, stabOk, dC, ev, fillD, pickCells, putAt, bnd, slD, List.getElem?_cons_zero, List.getElem?_cons_succ, dR.eq_20, Mem.cell, Mem.row, wmA]
  exact hq _ _ KM pM h1.sk sM (by simp [f2]) gM

theorem S4.store {w0 : World} {fr : Fr} {R : Value → Mem → Prop} {base m : Mem} {ip it i2 i3 : Nat} {ts : List (Tk × Nat)} {s : PS} {d : DS} {ob : Option Nat} (h : S4 base m ip it i2 i3 ts s d ob) (d' : DS) (j : Nat) (v : Value) {p x : Operand}
    (hp : ev fr p = .pointer (some ⟨i3, j, none⟩)) (hv : cellsV (ev fr x) = [v]) (hd : d'.arms = d.arms) (hc : putAt (dsC d (slV ob d.arms.length 2)) j [v] = dsC d' (slV ob d.arms.length 2)) (hj : j + 1 ≤ 7) (ho : oneC v = true)
    (hR : ∀ M, S4 base M ip it i2 i3 ts s d' ob → (∀ i, i ≠ i3 → M.get i = m.get i) → M.next = m.next → R undef M) : SK Tryz.prog w0 (.e (.st 1 p x)) fr m R := by
  refine SK_stv (i := i3) (o := j) (vs := [v]) hp h.g3 hv hj rfl (by simp only [List.all_cons, List.all_nil, ho]; rfl) ?_
  obtain ⟨M, hM, hS⟩ := h.put (d' := d') (cs := putAt (dsC d (slV ob d.arms.length 2)) j [v]) hd (by rw [hd]; exact hc)
  rw [hM]
  subst hM
  exact hR _ hS (fun i hi => Mem.set_other _ _ hi) rfl

theorem SK_stm {P : Program} {w0 : World} {ts : Fr} {m M : Mem} {R : Value → Mem → Prop} {n i o : Nat} {p x : Operand} {cs vs : List Value} {e : TypeId} (hp : ev ts p = .pointer (some ⟨i, o, none⟩)) (hm : m.get i = .own cs e) (hv : cellsV (ev ts x) = vs) (h1 : o + n ≤ cs.length) (h2 : vs.length = n) (h3 : vs.all oneC = true)
    (hM : m.set i (.own (putAt cs o vs) e) = M) (hR : R undef M) : SK P w0 (.e (.st n p x)) ts m R := by
  subst hM
  exact SK_stv hp hm hv h1 h2 h3 hR
theorem armsF_k {ts : List (Tk × Nat)} (he : EndOk ts) : ∀ (n : Nat) (s : PS) (out : List Arm), s.k < ts.length → (armsF n ts s out).2.k < ts.length
  | 0, s, out, h => h
  | n + 1, s, out, h => by
    simp only [armsF]
    split
    · exact h
    · split
      · rename_i hi
        exact armsF_k he n _ _ (isF_k he (armF_k he h) (by decide) hi).2.1
      · exact armF_k he h
theorem armsL_k {ts : List (Tk × Nat)} {s : PS} (he : EndOk ts) (h : s.k < ts.length) : (armsL ts s).2.k < ts.length := armsF_k he _ _ _ h

theorem w_rest {w0 : World} {Q : AQ} {fr : Fr} {base m : Mem} {ip it i2 i3 i4 : Nat} {ts : List (Tk × Nat)} {s : PS} {t : Tk × Nat} {lb : List UInt8} {pl : Int} (h : S4 base m ip it i2 i3 ts s { ds0 with lb := lb, pl := pl } none) (hl : ts.length ≤ 1000000) (hE : EndOk ts)
    (g4 : m.get i4 = .own (cellP t) 87) (n4 : base.next ≤ i4) (m4 : i4 < m.next)
    (f0 : fr 0 = .pointer (some ⟨ip, 0, none⟩)) (f2 : fr 2 = .pointer (some ⟨i2, 0, none⟩)) (f3 : fr 3 = .pointer (some ⟨i3, 0, none⟩)) (f4 : fr 4 = .pointer (some ⟨i4, 0, none⟩)) (f5 : fr 5 = .int .i64 (kindOf t.1.tx : Nat))
    (hq : ∀ fr' m' ob, Kept ip base m' → PsAt m' ip it ts (takeF ts 4 [59] (restF ts { ds0 with lb := lb, pl := pl } t s).2).2 → (takeF ts 4 [59] (restF ts { ds0 with lb := lb, pl := pl } t s).2).2.k < ts.length → SlO m' 49 2 ob ((restF ts { ds0 with lb := lb, pl := pl } t s).1.arms.flatMap Arm.cells) (restF ts { ds0 with lb := lb, pl := pl } t s).1.arms.length → (∀ i, ob = some i → base.next ≤ i) → (restF ts { ds0 with lb := lb, pl := pl } t s).1.arms.length ≤ ts.length → fr' 2 = .pointer (some ⟨i2, 0, none⟩) → m'.get i2 = .own (dsC (restF ts { ds0 with lb := lb, pl := pl } t s).1 (slV ob (restF ts { ds0 with lb := lb, pl := pl } t s).1.arms.length 2)) 29 → Q .ret fr' m') : AbW Tryz.prog w0 rc36_4 Q fr m := by
  have hkl := kindOf_le t.1.tx
  have fin : ∀ (fr' : Fr) (m' : Mem) (s' : PS) (d' : DS) (ob' : Option Nat), restF ts { ds0 with lb := lb, pl := pl } t s = (d', s') → S4 base m' ip it i2 i3 ts s' d' ob' → fr' 0 = .pointer (some ⟨ip, 0, none⟩) → fr' 2 = .pointer (some ⟨i2, 0, none⟩) → fr' 3 = .pointer (some ⟨i3, 0, none⟩) → AbW Tryz.prog w0 rc36_3 Q fr' m' := by
    intro fr' m' s' d' ob' he hS e0 e2 e3
    rw [he] at hq
    exact w_tail hS hl hE e0 e2 e3 fun fr'' m'' k p kl so a b => hq fr'' m'' ob' k p kl so hS.hob hS.al a b
  clear hq
  have hks : ∀ x, kindOf t.1.tx = x → restF ts { ds0 with lb := lb, pl := pl } t s = restK x ts { ds0 with lb := lb, pl := pl } t s := fun x hx => by subst hx; rfl
  have f5' : fr 5 = .int .i64 ((kindOf t.1.tx : Nat) : Int) := f5
  simp -implicitDefEqProofs (disch := first | assumption | (simp only [wnA]; done) | (simp only [wnA]; omega) | omega | fail) [rc36_4, wkA, retV, stabOk, dC, ev, fillD, pickCells, putAt, bnd, slD, List.getElem?_cons_zero, List.getElem?_cons_succ, dR.eq_20, Mem.cell, Mem.row, wmA, f3, f5]
  refine h.store { ds0 with lb := lb, pl := pl, kd := (kindOf t.1.tx : Int) } 1 (.int .i64 (kindOf t.1.tx : Int)) (by simp [wkA, retV, stabOk, dC, ev, fillD, pickCells, putAt, bnd, slD, List.getElem?_cons_zero, List.getElem?_cons_succ, dR.eq_20, f3]) (by simp [wkA, retV, stabOk, dC, ev, fillD, pickCells, putAt, bnd, slD, List.getElem?_cons_zero, List.getElem?_cons_succ, dR.eq_20]) rfl rfl (by omega) rfl fun M h1 o1 nM => ?_
  have g3 : M.get i3 = .own [.string ⟨⟨lb⟩⟩, .int .i64 (kindOf t.1.tx : Int), .string ⟨⟨[]⟩⟩, .slice none 0 0, .int .i64 0, .string ⟨⟨[]⟩⟩, .int .i64 (pl : Int)] 29 := h1.g3
  have n34 : i4 ≠ i3 := fun e => by rw [e, h.g3] at g4; cases g4
  have g4M := (o1 i4 n34).trans g4
  generalize hkk : kindOf t.1.tx = kk at *
  have hr := hks kk rfl
  clear hks
  rcases (show kk = 0 ∨ kk = 1 ∨ kk = 2 ∨ kk = 3 ∨ kk = 4 ∨ kk = 5 ∨ kk = 6 by omega) with rfl | rfl | rfl | rfl | rfl | rfl | rfl
  · simp -implicitDefEqProofs (disch := first | assumption | (simp only [wnA]; done) | (simp only [wnA]; omega) | omega | fail) [wkA, retV, stabOk, dC, ev, fillD, pickCells, putAt, bnd, slD, List.getElem?_cons_zero, List.getElem?_cons_succ, dR.eq_20, Mem.cell, Mem.row, wmA, f0, f3, g3]
    refine c_take (kd := 3) (tx := []) h1.ps h1.sk hl fun m2 k2 p2 => ?_
    have h2 := h1.call k2 p2 (takeF_k hE h1.sk (by decide))
    simp only [restK] at hr
    generalize takeF ts 3 [] s = r at *
    obtain ⟨⟨⟨kd0, tx0, vl0⟩, at0⟩, s2⟩ := r
    simp -implicitDefEqProofs (disch := first | assumption | (simp only [wnA]; done) | (simp only [wnA]; omega) | omega | fail) [wkA, retV, stabOk, dC, ev, fillD, pickCells, putAt, bnd, slD, List.getElem?_cons_zero, List.getElem?_cons_succ, dR.eq_20, Mem.cell, Mem.row, wmA, cellP_mk, f3]
    refine h2.store { ds0 with lb := lb, pl := pl, kd := 0, tx := tx0 } 2 (.string ⟨⟨tx0⟩⟩) (by simp [wkA, retV, stabOk, dC, ev, fillD, pickCells, putAt, bnd, slD, List.getElem?_cons_zero, List.getElem?_cons_succ, dR.eq_20, f3]) (by simp [wkA, retV, stabOk, dC, ev, fillD, pickCells, putAt, bnd, slD, List.getElem?_cons_zero, List.getElem?_cons_succ, dR.eq_20]) rfl rfl (by omega) rfl fun M3 h3 o3 nM3 => ?_
    simp -implicitDefEqProofs (disch := first | assumption | (simp only [wnA]; done) | (simp only [wnA]; omega) | omega | fail) [wkA, retV, stabOk, dC, ev, fillD, pickCells, putAt, bnd, slD, List.getElem?_cons_zero, List.getElem?_cons_succ, dR.eq_20, Mem.cell, Mem.row, wmA]
    exact fin _ _ _ _ _ hr h3 (by simp [f0]) (by simp [f2]) (by simp [f3])
  · simp -implicitDefEqProofs (disch := first | assumption | (simp only [wnA]; done) | (simp only [wnA]; omega) | omega | fail) [wkA, retV, stabOk, dC, ev, fillD, pickCells, putAt, bnd, slD, List.getElem?_cons_zero, List.getElem?_cons_succ, dR.eq_20, Mem.cell, Mem.row, wmA, f0, f3, g3]
    refine c_arms h1.ps h1.sk hl hE fun m2 ob k2 p2 so hob al => ?_
    have kA : (armsL ts s).2.k < ts.length := armsL_k hE h1.sk
    have h2 := h1.call k2 p2 kA
    simp only [restK] at hr
    generalize armsL ts s = r at *
    obtain ⟨asx, s2⟩ := r
    obtain ⟨M3, hM3, h3⟩ := h2.putA (d' := { ds0 with lb := lb, pl := pl, kd := 1, arms := asx }) (ob' := ob) (cs := putAt (dsC { ds0 with lb := lb, pl := pl, kd := 1 } (.slice none 0 0)) 3 [slV ob asx.length 2]) so (fun i hi => Nat.le_trans h1.kb.1 (hob i hi)) al rfl
    simp -implicitDefEqProofs (disch := first | assumption | (simp only [wnA]; done) | (simp only [wnA]; omega) | omega | fail) [wkA, retV, stabOk, dC, ev, fillD, pickCells, putAt, bnd, slD, List.getElem?_cons_zero, List.getElem?_cons_succ, dR.eq_20, Mem.cell, Mem.row, wmA, f3]
    refine SK_stm (i := i3) (o := 3) (vs := [slV ob asx.length 2]) (M := M3) (by simp [wkA, retV, stabOk, dC, ev, fillD, pickCells, putAt, bnd, slD, List.getElem?_cons_zero, List.getElem?_cons_succ, dR.eq_20, f3]) h2.g3 (by cases ob <;> simp [wkA, retV, stabOk, dC, ev, fillD, pickCells, putAt, bnd, slD, List.getElem?_cons_zero, List.getElem?_cons_succ, dR.eq_20, slV]) (by simp [dsC]) rfl (by cases ob <;> rfl) hM3 ?_
    simp -implicitDefEqProofs (disch := first | assumption | (simp only [wnA]; done) | (simp only [wnA]; omega) | omega | fail) [wkA, retV, stabOk, dC, ev, fillD, pickCells, putAt, bnd, slD, List.getElem?_cons_zero, List.getElem?_cons_succ, dR.eq_20, Mem.cell, Mem.row, wmA, f0]
    refine c_take (kd := 1) (tx := afterL) h3.ps h3.sk hl fun m4 k4 p4 => ?_
    have h4 := h3.call k4 p4 (takeF_k hE h3.sk (by decide))
    generalize takeF ts 1 afterL s2 = r2 at *
    obtain ⟨tt2, s4⟩ := r2
    simp -implicitDefEqProofs (disch := first | assumption | (simp only [wnA]; done) | (simp only [wnA]; omega) | omega | fail) [wkA, retV, stabOk, dC, ev, fillD, pickCells, putAt, bnd, slD, List.getElem?_cons_zero, List.getElem?_cons_succ, dR.eq_20, Mem.cell, Mem.row, wmA, f0]
    refine c_number (most := 99) h4.ps h4.sk hl fun m5 k5 p5 => ?_
    have h5 := h4.call k5 p5 (numF_k hE h4.sk)
    simp only at hr
    generalize numF 99 ts s4 = r3 at *
    obtain ⟨nn, s5⟩ := r3
    simp -implicitDefEqProofs (disch := first | assumption | (simp only [wnA]; done) | (simp only [wnA]; omega) | omega | fail) [wkA, retV, stabOk, dC, ev, fillD, pickCells, putAt, bnd, slD, List.getElem?_cons_zero, List.getElem?_cons_succ, dR.eq_20, Mem.cell, Mem.row, wmA, f3]
    refine h5.store { ds0 with lb := lb, pl := pl, kd := 1, arms := asx, n := nn } 4 (.int .i64 nn) (by simp [wkA, retV, stabOk, dC, ev, fillD, pickCells, putAt, bnd, slD, List.getElem?_cons_zero, List.getElem?_cons_succ, dR.eq_20, f3]) (by simp [wkA, retV, stabOk, dC, ev, fillD, pickCells, putAt, bnd, slD, List.getElem?_cons_zero, List.getElem?_cons_succ, dR.eq_20]) rfl rfl (by omega) rfl fun M6 h6 o6 nM6 => ?_
    simp -implicitDefEqProofs (disch := first | assumption | (simp only [wnA]; done) | (simp only [wnA]; omega) | omega | fail) [wkA, retV, stabOk, dC, ev, fillD, pickCells, putAt, bnd, slD, List.getElem?_cons_zero, List.getElem?_cons_succ, dR.eq_20, Mem.cell, Mem.row, wmA, f0]
    refine c_to h6.ps h6.sk hl hE fun m7 k7 p7 => ?_
    have h7 := h6.call k7 p7 (toF_k hE h6.sk)
    simp only at hr
    generalize toF ts s5 = r4 at *
    obtain ⟨txt, s7⟩ := r4
    simp -implicitDefEqProofs (disch := first | assumption | (simp only [wnA]; done) | (simp only [wnA]; omega) | omega | fail) [wkA, retV, stabOk, dC, ev, fillD, pickCells, putAt, bnd, slD, List.getElem?_cons_zero, List.getElem?_cons_succ, dR.eq_20, Mem.cell, Mem.row, wmA, f3]
    refine h7.store { ds0 with lb := lb, pl := pl, kd := 1, arms := asx, n := nn, to := txt } 5 (.string ⟨⟨txt⟩⟩) (by simp [wkA, retV, stabOk, dC, ev, fillD, pickCells, putAt, bnd, slD, List.getElem?_cons_zero, List.getElem?_cons_succ, dR.eq_20, f3]) (by simp [wkA, retV, stabOk, dC, ev, fillD, pickCells, putAt, bnd, slD, List.getElem?_cons_zero, List.getElem?_cons_succ, dR.eq_20]) rfl rfl (by omega) rfl fun M8 h8 o8 nM8 => ?_
    simp -implicitDefEqProofs (disch := first | assumption | (simp only [wnA]; done) | (simp only [wnA]; omega) | omega | fail) [wkA, retV, stabOk, dC, ev, fillD, pickCells, putAt, bnd, slD, List.getElem?_cons_zero, List.getElem?_cons_succ, dR.eq_20, Mem.cell, Mem.row, wmA]
    exact fin _ _ _ _ _ hr h8 (by simp [f0]) (by simp [f2]) (by simp [f3])
  · simp -implicitDefEqProofs (disch := first | assumption | (simp only [wnA]; done) | (simp only [wnA]; omega) | omega | fail) [wkA, retV, stabOk, dC, ev, fillD, pickCells, putAt, bnd, slD, List.getElem?_cons_zero, List.getElem?_cons_succ, dR.eq_20, Mem.cell, Mem.row, wmA, f0, f3, g3]
    refine c_take (kd := 1) (tx := []) h1.ps h1.sk hl fun m2 k2 p2 => ?_
    have h2 := h1.call k2 p2 (takeF_k hE h1.sk (by decide))
    simp only [restK] at hr
    generalize takeF ts 1 [] s = r at *
    obtain ⟨⟨⟨kd0, tx0, vl0⟩, at0⟩, s2⟩ := r
    simp -implicitDefEqProofs (disch := first | assumption | (simp only [wnA]; done) | (simp only [wnA]; omega) | omega | fail) [wkA, retV, stabOk, dC, ev, fillD, pickCells, putAt, bnd, slD, List.getElem?_cons_zero, List.getElem?_cons_succ, dR.eq_20, Mem.cell, Mem.row, wmA, cellP_mk, f3]
    refine h2.store { ds0 with lb := lb, pl := pl, kd := 2, to := tx0 } 5 (.string ⟨⟨tx0⟩⟩) (by simp [wkA, retV, stabOk, dC, ev, fillD, pickCells, putAt, bnd, slD, List.getElem?_cons_zero, List.getElem?_cons_succ, dR.eq_20, f3]) (by simp [wkA, retV, stabOk, dC, ev, fillD, pickCells, putAt, bnd, slD, List.getElem?_cons_zero, List.getElem?_cons_succ, dR.eq_20]) rfl rfl (by omega) rfl fun M3 h3 o3 nM3 => ?_
    simp -implicitDefEqProofs (disch := first | assumption | (simp only [wnA]; done) | (simp only [wnA]; omega) | omega | fail) [wkA, retV, stabOk, dC, ev, fillD, pickCells, putAt, bnd, slD, List.getElem?_cons_zero, List.getElem?_cons_succ, dR.eq_20, Mem.cell, Mem.row, wmA]
    exact fin _ _ _ _ _ hr h3 (by simp [f0]) (by simp [f2]) (by simp [f3])
  · simp -implicitDefEqProofs (disch := first | assumption | (simp only [wnA]; done) | (simp only [wnA]; omega) | omega | fail) [wkA, retV, stabOk, dC, ev, fillD, pickCells, putAt, bnd, slD, List.getElem?_cons_zero, List.getElem?_cons_succ, dR.eq_20, Mem.cell, Mem.row, wmA, f0, f3, g3]
    refine c_number (most := 9) h1.ps h1.sk hl fun m5 k5 p5 => ?_
    have h5 := h1.call k5 p5 (numF_k hE h1.sk)
    simp only [restK] at hr
    generalize numF 9 ts s = r3 at *
    obtain ⟨nn, s5⟩ := r3
    simp -implicitDefEqProofs (disch := first | assumption | (simp only [wnA]; done) | (simp only [wnA]; omega) | omega | fail) [wkA, retV, stabOk, dC, ev, fillD, pickCells, putAt, bnd, slD, List.getElem?_cons_zero, List.getElem?_cons_succ, dR.eq_20, Mem.cell, Mem.row, wmA, f3]
    refine h5.store { ds0 with lb := lb, pl := pl, kd := 3, n := nn } 4 (.int .i64 nn) (by simp [wkA, retV, stabOk, dC, ev, fillD, pickCells, putAt, bnd, slD, List.getElem?_cons_zero, List.getElem?_cons_succ, dR.eq_20, f3]) (by simp [wkA, retV, stabOk, dC, ev, fillD, pickCells, putAt, bnd, slD, List.getElem?_cons_zero, List.getElem?_cons_succ, dR.eq_20]) rfl rfl (by omega) rfl fun M6 h6 o6 nM6 => ?_
    simp -implicitDefEqProofs (disch := first | assumption | (simp only [wnA]; done) | (simp only [wnA]; omega) | omega | fail) [wkA, retV, stabOk, dC, ev, fillD, pickCells, putAt, bnd, slD, List.getElem?_cons_zero, List.getElem?_cons_succ, dR.eq_20, Mem.cell, Mem.row, wmA, f0]
    refine c_to h6.ps h6.sk hl hE fun m7 k7 p7 => ?_
    have h7 := h6.call k7 p7 (toF_k hE h6.sk)
    simp only at hr
    generalize toF ts s5 = r4 at *
    obtain ⟨txt, s7⟩ := r4
    simp -implicitDefEqProofs (disch := first | assumption | (simp only [wnA]; done) | (simp only [wnA]; omega) | omega | fail) [wkA, retV, stabOk, dC, ev, fillD, pickCells, putAt, bnd, slD, List.getElem?_cons_zero, List.getElem?_cons_succ, dR.eq_20, Mem.cell, Mem.row, wmA, f3]
    refine h7.store { ds0 with lb := lb, pl := pl, kd := 3, n := nn, to := txt } 5 (.string ⟨⟨txt⟩⟩) (by simp [wkA, retV, stabOk, dC, ev, fillD, pickCells, putAt, bnd, slD, List.getElem?_cons_zero, List.getElem?_cons_succ, dR.eq_20, f3]) (by simp [wkA, retV, stabOk, dC, ev, fillD, pickCells, putAt, bnd, slD, List.getElem?_cons_zero, List.getElem?_cons_succ, dR.eq_20]) rfl rfl (by omega) rfl fun M8 h8 o8 nM8 => ?_
    simp -implicitDefEqProofs (disch := first | assumption | (simp only [wnA]; done) | (simp only [wnA]; omega) | omega | fail) [wkA, retV, stabOk, dC, ev, fillD, pickCells, putAt, bnd, slD, List.getElem?_cons_zero, List.getElem?_cons_succ, dR.eq_20, Mem.cell, Mem.row, wmA]
    exact fin _ _ _ _ _ hr h8 (by simp [f0]) (by simp [f2]) (by simp [f3])
  · simp -implicitDefEqProofs (disch := first | assumption | (simp only [wnA]; done) | (simp only [wnA]; omega) | omega | fail) [wkA, retV, stabOk, dC, ev, fillD, pickCells, putAt, bnd, slD, List.getElem?_cons_zero, List.getElem?_cons_succ, dR.eq_20, Mem.cell, Mem.row, wmA, f3, g3]
    exact fin _ _ _ _ _ hr h1 (by simp [f0]) (by simp [f2]) (by simp [f3])
  · simp -implicitDefEqProofs (disch := first | assumption | (simp only [wnA]; done) | (simp only [wnA]; omega) | omega | fail) [wkA, retV, stabOk, dC, ev, fillD, pickCells, putAt, bnd, slD, List.getElem?_cons_zero, List.getElem?_cons_succ, dR.eq_20, Mem.cell, Mem.row, wmA, f3, g3]
    exact fin _ _ _ _ _ hr h1 (by simp [f0]) (by simp [f2]) (by simp [f3])
  · simp -implicitDefEqProofs (disch := first | assumption | (simp only [wnA]; done) | (simp only [wnA]; omega) | omega | fail) [wkA, retV, stabOk, dC, ev, fillD, pickCells, putAt, bnd, slD, List.getElem?_cons_zero, List.getElem?_cons_succ, dR.eq_20, Mem.cell, Mem.row, wmA, f3, g3]
    obtain ⟨⟨kd0, tx0, vl0⟩, at0⟩ := t
    have g4M : M.get i4 = .own [.int .i64 kd0, .string ⟨⟨tx0⟩⟩, .int .i64 vl0, .int .i64 (at0 : Int)] 87 := g4M
    obtain ⟨k, err⟩ := s
    cases err with
    | some e =>
      have gp : M.get ip = .own [.slice (some ⟨it, 0, none⟩) ts.length 4, .int .i64 (k : Int), faultV e.1 e.2] 84 := h1.ps.1
      simp -implicitDefEqProofs (disch := first | assumption | (simp only [wnA]; done) | (simp only [wnA]; omega) | omega | fail) [rc36_2, wkA, retV, stabOk, dC, ev, fillD, pickCells, putAt, bnd, slD, List.getElem?_cons_zero, List.getElem?_cons_succ, dR.eq_20, Mem.cell, Mem.row, wmA, f0, gp, faultV]
      exact fin _ _ _ _ _ hr h1 (by simp [f0]) (by simp [f2]) (by simp [f3])
    | none =>
      have gp : M.get ip = .own [.slice (some ⟨it, 0, none⟩) ts.length 4, .int .i64 (k : Int), .nilIface] 84 := h1.ps.1
      simp -implicitDefEqProofs (disch := first | assumption | (simp only [wnA]; done) | (simp only [wnA]; omega) | omega | fail) [rc36_2, wkA, retV, stabOk, dC, ev, fillD, pickCells, putAt, bnd, slD, List.getElem?_cons_zero, List.getElem?_cons_succ, dR.eq_20, Mem.cell, Mem.row, wmA, f0, f4, gp, g4M]
      refine c_Wrap ?_
      simp -implicitDefEqProofs (disch := first | assumption | (simp only [wnA]; done) | (simp only [wnA]; omega) | omega | fail) [wkA, retV, stabOk, dC, ev, fillD, pickCells, putAt, bnd, slD, List.getElem?_cons_zero, List.getElem?_cons_succ, dR.eq_20, Mem.cell, Mem.row, wmA]
      obtain ⟨M3, hM3⟩ : ∃ M3, M.set ip (.own (putAt [.slice (some ⟨it, 0, none⟩) ts.length 4, .int .i64 (k : Int), .nilIface] 2 [faultV 3 at0]) 84) = M3 := ⟨_, rfl⟩
      refine SK_stv (i := ip) (o := 2) (vs := [faultV 3 at0]) (e := 84) (by simp [wkA, retV, stabOk, dC, ev, fillD, pickCells, putAt, bnd, slD, List.getElem?_cons_zero, List.getElem?_cons_succ, dR.eq_20]) gp (by simp [wkA, retV, stabOk, dC, ev, fillD, pickCells, putAt, bnd, slD, List.getElem?_cons_zero, List.getElem?_cons_succ, dR.eq_20, faultV]) (by simp) rfl rfl ?_
      rw [hM3]
      have K3 : Kept ip M M3 := by subst hM3; exact ⟨Nat.le_refl _, fun i hi hn => Mem.set_other _ _ hn⟩
      have p3 : PsAt M3 ip it ts ⟨k, some (3, at0)⟩ := by
        subst hM3
        exact ⟨by rw [Mem.set_same]; rfl, by rw [Mem.set_other _ _ (fun e => h1.ps.2.2.2.2 e.symm)]; exact h1.ps.2.1, h1.ps.2.2.1, h1.ps.2.2.2.1, h1.ps.2.2.2.2⟩
      have h3 := h1.call K3 p3 h1.sk
      simp -implicitDefEqProofs (disch := first | assumption | (simp only [wnA]; done) | (simp only [wnA]; omega) | omega | fail) [wkA, retV, stabOk, dC, ev, fillD, pickCells, putAt, bnd, slD, List.getElem?_cons_zero, List.getElem?_cons_succ, dR.eq_20, Mem.cell, Mem.row, wmA]
      exact fin _ _ _ _ _ hr h3 (by simp [f0]) (by simp [f2]) (by simp [f3])
end Go.Proofs.YtjlicambfepfiaaGreatDoor.Ab

set_option linter.unusedVariables false
set_option linter.unusedSimpArgs false
namespace Go.Proofs.YtjlicambfepfiaaGreatDoor.Ab
open Go Go.RowKit
set_option maxHeartbeats 4000000
set_option maxRecDepth 100000

theorem S4.old {base m m' : Mem} {ip it i2 i3 : Nat} {ts : List (Tk × Nat)} {s : PS} {d : DS} {ob : Option Nat} (h : S4 base m ip it i2 i3 ts s d ob) (k : Old m m') : S4 base m' ip it i2 i3 ts s d ob := h.call k.kept (h.ps.old k) h.sk
theorem S4.other {base m : Mem} {ip it i2 i3 i4 : Nat} {ts : List (Tk × Nat)} {s : PS} {d : DS} (h : S4 base m ip it i2 i3 ts s d none) (x : Ent) (h4 : base.next ≤ i4) (n2 : i4 ≠ i2) (n3 : i4 ≠ i3) : ∃ M, m.set i4 x = M ∧ S4 base M ip it i2 i3 ts s d none ∧ M.get i4 = x ∧ M.next = m.next := by
  obtain ⟨M, q1, q2, q3, q4, q5, q6⟩ := step_set (x := x) h.kb h.ps h4 h.hip h.hit
  refine ⟨M, q1, ⟨q2, q3, h.sk, ?_, ?_, h.n2, h.n3, by rw [q6]; exact h.m2, by rw [q6]; exact h.m3, h.ne, ⟨h.so.1, h.so.2⟩, h.hob, h.al, h.hip, h.hit⟩, q4, q6⟩
  · rw [q5 i2 (fun e => n2 e.symm)]; exact h.g2
  · rw [q5 i3 (fun e => n3 e.symm)]; exact h.g3

theorem w_from {w0 : World} {Q : AQ} {fr : Fr} {base m : Mem} {ip it i2 i3 i4 : Nat} {ts : List (Tk × Nat)} {s : PS} {t : Tk × Nat} {lb : List UInt8} {pl : Int} (h : S4 base m ip it i2 i3 ts s { ds0 with lb := lb, pl := pl } none) (hl : ts.length ≤ 1000000) (hE : EndOk ts)
    (g4 : m.get i4 = .own (cellP t) 87) (n4 : base.next ≤ i4) (m4 : i4 < m.next)
    (f0 : fr 0 = .pointer (some ⟨ip, 0, none⟩)) (f2 : fr 2 = .pointer (some ⟨i2, 0, none⟩)) (f3 : fr 3 = .pointer (some ⟨i3, 0, none⟩)) (f4 : fr 4 = .pointer (some ⟨i4, 0, none⟩))
    (hq : ∀ fr' m' ob, Kept ip base m' → PsAt m' ip it ts (takeF ts 4 [59] (restF ts { ds0 with lb := lb, pl := pl } t s).2).2 → (takeF ts 4 [59] (restF ts { ds0 with lb := lb, pl := pl } t s).2).2.k < ts.length → SlO m' 49 2 ob ((restF ts { ds0 with lb := lb, pl := pl } t s).1.arms.flatMap Arm.cells) (restF ts { ds0 with lb := lb, pl := pl } t s).1.arms.length → (∀ i, ob = some i → base.next ≤ i) → (restF ts { ds0 with lb := lb, pl := pl } t s).1.arms.length ≤ ts.length → fr' 2 = .pointer (some ⟨i2, 0, none⟩) → m'.get i2 = .own (dsC (restF ts { ds0 with lb := lb, pl := pl } t s).1 (slV ob (restF ts { ds0 with lb := lb, pl := pl } t s).1.arms.length 2)) 29 → Q .ret fr' m') : AbW Tryz.prog w0 rc36_5 Q fr m := by
  obtain ⟨⟨kd0, tx0, vl0⟩, at0⟩ := t
  simp -implicitDefEqProofs (disch := first | assumption | (simp only [wnA]; done) | (simp only [wnA]; omega) | omega | fail) [rc36_5, wkA, retV, stabOk, dC, ev, fillD, pickCells, putAt, bnd, slD, List.getElem?_cons_zero, List.getElem?_cons_succ, dR.eq_20, Mem.cell, Mem.row, wmA]
  refine w_word (i4 := i4) (kd0 := kd0) (tx := tx0) (vl0 := vl0) (at0 := at0) g4 m4 (by simp [f4]) (by simp) fun fr' m' o sm h5 => ?_
  have e0 := sm 0 (by simp)
  have e2 := sm 2 (by simp)
  have e3 := sm 3 (by simp)
  have e4 := sm 4 (by simp)
  simp [f0, f2, f3, f4] at e0 e2 e3 e4
  simp -implicitDefEqProofs (disch := first | assumption | (simp only [wnA]; done) | (simp only [wnA]; omega) | omega | fail) [wkA, retV, stabOk, dC, ev, fillD, pickCells, putAt, bnd, slD, List.getElem?_cons_zero, List.getElem?_cons_succ, dR.eq_20, Mem.cell, Mem.row, wmA]
  exact w_rest (t := (⟨kd0, tx0, vl0⟩, at0)) (h.old o) hl hE ((o.2 i4 m4).trans g4) n4 (Nat.lt_of_lt_of_le m4 o.1) e0 e2 e3 e4 h5 hq

theorem c_step {w0 : World} {m : Mem} {ip it : Nat} {ts : List (Tk × Nat)} {s : PS} {Q : Value → Mem → Prop} (h : PsAt m ip it ts s) (hk : s.k < ts.length) (hl : ts.length ≤ 1000000) (hE : EndOk ts)
    (hq : ∀ m' ob, Kept ip m m' → PsAt m' ip it ts (stepF ts s).2 → (stepF ts s).2.k < ts.length → SlO m' 49 2 ob ((stepF ts s).1.arms.flatMap Arm.cells) (stepF ts s).1.arms.length → (∀ i, ob = some i → m.next ≤ i) → (stepF ts s).1.arms.length ≤ ts.length → Q (.agg ⟨dsC (stepF ts s).1 (slV ob (stepF ts s).1.arms.length 2)⟩) m') :
    AbC Tryz.prog w0 36 [.pointer (some ⟨ip, 0, none⟩)] m Q := by
  refine AbC_fn ok36 (by simp) ?_
  have hgd : ts.getD s.k tok0 = ts[s.k] := by simp [List.getD, List.getElem?_eq_getElem hk]
  have hst : stepF ts s = ((restF ts { ds0 with lb := (headF ts s).1, pl := ts[s.k].2 } (headF ts s).2.1 (headF ts s).2.2).1, (takeF ts 4 [59] (restF ts { ds0 with lb := (headF ts s).1, pl := ts[s.k].2 } (headF ts s).2.1 (headF ts s).2.2).2).2) := by unfold stepF; rw [hgd]
  rw [hst] at hq
  clear hst
  obtain ⟨h1, h2, h3, h4, h5⟩ := h
  have hidx : sidx 4 (.slice (some ⟨it, 0, none⟩) ts.length 4) (.int .i64 (s.k : Int)) = some (.pointer (some ⟨it, 0 + s.k * 4, none⟩)) := sidx_at hk
  rw [Nat.zero_add] at hidx
  have hb1 : s.k * 4 + 4 ≤ (ts.flatMap cellP).length := by rw [cellsP_len]; omega
  have hg3 : (ts.flatMap cellP)[s.k * 4 + 3]? = some (.int .i64 (ts[s.k].2 : Int)) := by rw [flat_at' cellP_len ts (List.getElem?_eq_getElem hk) (by omega)]; rfl
  generalize ts[s.k].2 = at0 at *
  clear hgd
  obtain ⟨L, hL⟩ : ∃ L, ts.flatMap cellP = L := ⟨_, rfl⟩
  have hp0 : PsAt m ip it ts s := ⟨h1, h2, h3, h4, h5⟩
  rw [hL] at h2 hb1 hg3
  simp -implicitDefEqProofs (disch := first | assumption | (simp only [wnA]; done) | (simp only [wnA]; omega) | omega | fail) [rc36, ro36, wkA, retV, stabOk, dC, ev, fillD, pickCells, putAt, bnd, slD, List.getElem?_cons_zero, List.getElem?_cons_succ, dR.eq_20, Mem.cell, Mem.row, wmA, h1, h2, hidx, hg3, hb1, getL hg3]
  obtain ⟨M, hM⟩ : ∃ M, ((m.push (.own [.string ⟨#[]⟩, .int .i64 0, .string ⟨#[]⟩, .slice none 0 0, .int .i64 0, .string ⟨#[]⟩, .int .i64 0] 29)).push (.own [.string ⟨#[]⟩, .int .i64 0, .string ⟨#[]⟩, .slice none 0 0, .int .i64 0, .string ⟨#[]⟩, .int .i64 0] 29)).set (m.next + 1) (.own (putAt [.string ⟨#[]⟩, .int .i64 0, .string ⟨#[]⟩, .slice none 0 0, .int .i64 0, .string ⟨#[]⟩, .int .i64 0] 0 [.string ⟨⟨[]⟩⟩, .int .i64 0, .string ⟨⟨[]⟩⟩, .slice none 0 0, .int .i64 0, .string ⟨⟨[]⟩⟩, .int .i64 (at0 : Int)]) 29) = M := ⟨_, rfl⟩
  refine SK_stm (i := m.next + 1) (o := 0) (vs := [.string ⟨⟨[]⟩⟩, .int .i64 0, .string ⟨⟨[]⟩⟩, .slice none 0 0, .int .i64 0, .string ⟨⟨[]⟩⟩, .int .i64 (at0 : Int)]) (cs := [.string ⟨#[]⟩, .int .i64 0, .string ⟨#[]⟩, .slice none 0 0, .int .i64 0, .string ⟨#[]⟩, .int .i64 0]) (e := 29) (M := M) (by simp [wkA, retV, stabOk, dC, ev, fillD, pickCells, putAt, bnd, slD, List.getElem?_cons_zero, List.getElem?_cons_succ, dR.eq_20]) (by simp -implicitDefEqProofs (disch := first | assumption | (simp only [wnA]; done) | (simp only [wnA]; omega) | omega | fail) [wkA, retV, stabOk, dC, ev, fillD, pickCells, putAt, bnd, slD, List.getElem?_cons_zero, List.getElem?_cons_succ, dR.eq_20, Mem.cell, Mem.row, wmA]) (by simp [wkA, retV, stabOk, dC, ev, fillD, pickCells, putAt, bnd, slD, List.getElem?_cons_zero, List.getElem?_cons_succ, dR.eq_20]) (by simp) rfl rfl hM ?_
  have oM : Old m M := by subst hM; exact (((Old.refl m).push _).push _).set (by omega) _
  have hs0 : S4 m M ip it m.next (m.next + 1) ts s { ds0 with lb := [], pl := at0 } none := by
    refine ⟨oM.kept, hp0.old oM, hk, ⟨.slice none 0 0, ?_⟩, ?_, Nat.le_refl _, by omega, by subst hM; simp only [Mem.set_next, Mem.push_next]; omega, by subst hM; simp, by omega, ⟨rfl, rfl⟩, (fun i h => by cases h), Nat.zero_le _, h3, h4⟩
    · subst hM; rw [Mem.set_other _ _ (by omega), Mem.push_old _ _ (by simp), Mem.push_same]; rfl
    · subst hM; rw [Mem.set_same]; rfl
  clear hM
  simp -implicitDefEqProofs (disch := first | assumption | (simp only [wnA]; done) | (simp only [wnA]; omega) | omega | fail) [wkA, retV, stabOk, dC, ev, fillD, pickCells, putAt, bnd, slD, List.getElem?_cons_zero, List.getElem?_cons_succ, dR.eq_20, Mem.cell, Mem.row, wmA]
  refine c_take (kd := 1) (tx := []) hs0.ps hs0.sk hl fun m2 k2 p2 => ?_
  have hs2 := hs0.call k2 p2 (takeF_k hE hs0.sk (by decide))
  unfold headF at hq
  generalize takeF ts 1 [] s = r at *
  obtain ⟨⟨⟨kd0, tx0, vl0⟩, tat⟩, s2⟩ := r
  simp only at hs2 hq
  simp -implicitDefEqProofs (disch := first | assumption | (simp only [wnA]; done) | (simp only [wnA]; omega) | omega | fail) [wkA, retV, stabOk, dC, ev, fillD, pickCells, putAt, bnd, slD, List.getElem?_cons_zero, List.getElem?_cons_succ, dR.eq_20, Mem.cell, Mem.row, wmA, cellP_mk]
  have n2 := hs2.kb.1
  have l2 := hs2.m3
  obtain ⟨M3, hM3⟩ : ∃ M, (m2.push (.own [.int .i64 0, .string ⟨#[]⟩, .int .i64 0, .int .i64 0] 87)).set m2.next (.own (putAt [.int .i64 0, .string ⟨#[]⟩, .int .i64 0, .int .i64 0] 0 [.int .i64 kd0, .string ⟨⟨tx0⟩⟩, .int .i64 vl0, .int .i64 (tat : Int)]) 87) = M := ⟨_, rfl⟩
  refine SK_stm (i := m2.next) (o := 0) (vs := [.int .i64 kd0, .string ⟨⟨tx0⟩⟩, .int .i64 vl0, .int .i64 (tat : Int)]) (cs := [.int .i64 0, .string ⟨#[]⟩, .int .i64 0, .int .i64 0]) (e := 87) (M := M3) (by simp [wkA, retV, stabOk, dC, ev, fillD, pickCells, putAt, bnd, slD, List.getElem?_cons_zero, List.getElem?_cons_succ, dR.eq_20]) (by simp -implicitDefEqProofs (disch := first | assumption | (simp only [wnA]; done) | (simp only [wnA]; omega) | omega | fail) [wkA, retV, stabOk, dC, ev, fillD, pickCells, putAt, bnd, slD, List.getElem?_cons_zero, List.getElem?_cons_succ, dR.eq_20, Mem.cell, Mem.row, wmA]) (by simp [wkA, retV, stabOk, dC, ev, fillD, pickCells, putAt, bnd, slD, List.getElem?_cons_zero, List.getElem?_cons_succ, dR.eq_20, cellP_mk]) (by simp) rfl rfl hM3 ?_
  have oM3 : Old m2 M3 := by subst hM3; exact ((Old.refl m2).push _).set (Nat.le_refl _) _
  have g43 : M3.get m2.next = .own [.int .i64 kd0, .string ⟨⟨tx0⟩⟩, .int .i64 vl0, .int .i64 (tat : Int)] 87 := by subst hM3; rw [Mem.set_same]; rfl
  have n43 : m2.next < M3.next := by subst hM3; simp
  clear hM3
  have hs3 := hs2.old oM3
  simp -implicitDefEqProofs (disch := first | assumption | (simp only [wnA]; done) | (simp only [wnA]; omega) | omega | fail) [wkA, retV, stabOk, dC, ev, fillD, pickCells, putAt, bnd, slD, List.getElem?_cons_zero, List.getElem?_cons_succ, dR.eq_20, Mem.cell, Mem.row, wmA]
  refine c_is (kd := 4) (tx := [58]) hs3.ps hs3.sk hl fun m4 o4 => ?_
  have hs4 := hs3.old o4
  have g44 := (o4.2 m2.next n43).trans g43
  have n44 : m2.next < m4.next := Nat.lt_of_lt_of_le n43 o4.1
  cases hi : isF ts 4 [58] s2 with
  | false =>
    rw [hi] at hq
    simp only [Bool.false_eq_true, if_false] at hq
    simp -implicitDefEqProofs (disch := first | assumption | (simp only [wnA]; done) | (simp only [wnA]; omega) | omega | fail) [wkA, retV, stabOk, dC, ev, fillD, pickCells, putAt, bnd, slD, List.getElem?_cons_zero, List.getElem?_cons_succ, dR.eq_20, Mem.cell, Mem.row, wmA]
    refine w_from (t := (⟨kd0, tx0, vl0⟩, tat)) hs4 hl hE g44 (by omega) n44 (by simp [frA_at]) (by simp) (by simp) (by simp) fun fr' m' ob k p kl so hob al e2 g2 => ?_
    simp only [dsC] at g2
    simp -implicitDefEqProofs (disch := first | assumption | (simp only [wnA]; done) | (simp only [wnA]; omega) | omega | fail) [wkA, retV, stabOk, dC, ev, fillD, pickCells, putAt, bnd, slD, List.getElem?_cons_zero, List.getElem?_cons_succ, dR.eq_20, Mem.cell, Mem.row, wmA, e2, g2]
    exact hq m' ob k p kl so hob al
  | true =>
    rw [hi] at hq
    simp only [if_true] at hq
    obtain ⟨e5, hk5, -⟩ := isF_k hE hs4.sk (by decide) hi
    obtain ⟨k, err⟩ := s2
    have e5 : err = none := e5
    subst e5
    have hk5 : k + 1 < ts.length := hk5
    have gp := hs4.ps.1
    have gp : m4.get ip = .own [.slice (some ⟨it, 0, none⟩) ts.length 4, .int .i64 (k : Int), .nilIface] 84 := gp
    have w1 : IntKind.i64.wrap ((k : Int) + 1) = ((k + 1 : Nat) : Int) := by rw [w64 (by omega)]; omega
    simp -implicitDefEqProofs (disch := first | assumption | (simp only [wnA]; done) | (simp only [wnA]; omega) | omega | fail) [wkA, retV, stabOk, dC, ev, fillD, pickCells, putAt, bnd, slD, List.getElem?_cons_zero, List.getElem?_cons_succ, dR.eq_20, Mem.cell, Mem.row, wmA, gp, w1]
    obtain ⟨M8, hM8⟩ : ∃ M, m4.set ip (.own (putAt [.slice (some ⟨it, 0, none⟩) ts.length 4, .int .i64 (k : Int), .nilIface] 1 [.int .i64 ((k + 1 : Nat) : Int)]) 84) = M := ⟨_, rfl⟩
    refine SK_stm (i := ip) (o := 1) (vs := [.int .i64 ((k + 1 : Nat) : Int)]) (e := 84) (M := M8) (by simp [wkA, retV, stabOk, dC, ev, fillD, pickCells, putAt, bnd, slD, List.getElem?_cons_zero, List.getElem?_cons_succ, dR.eq_20]) gp (by simp [wkA, retV, stabOk, dC, ev, fillD, pickCells, putAt, bnd, slD, List.getElem?_cons_zero, List.getElem?_cons_succ, dR.eq_20]) (by simp) rfl rfl hM8 ?_
    have K8 : Kept ip m4 M8 := by subst hM8; exact ⟨Nat.le_refl _, fun i hi hn => Mem.set_other _ _ hn⟩
    have p8 : PsAt M8 ip it ts ⟨k + 1, none⟩ := by
      subst hM8
      have := hs4.ps
      exact ⟨by rw [Mem.set_same]; rfl, by rw [Mem.set_other _ _ (fun e => this.2.2.2.2 e.symm)]; exact this.2.1, this.2.2.1, this.2.2.2.1, this.2.2.2.2⟩
    have g48 : M8.get m2.next = .own [.int .i64 kd0, .string ⟨⟨tx0⟩⟩, .int .i64 vl0, .int .i64 (tat : Int)] 87 := (K8.2 _ n44 (by omega)).trans g44
    have n48 : m2.next < M8.next := Nat.lt_of_lt_of_le n44 K8.1
    have hs8 := hs4.call K8 p8 hk5
    clear hM8
    simp -implicitDefEqProofs (disch := first | assumption | (simp only [wnA]; done) | (simp only [wnA]; omega) | omega | fail) [wkA, retV, stabOk, dC, ev, fillD, pickCells, putAt, bnd, slD, List.getElem?_cons_zero, List.getElem?_cons_succ, dR.eq_20, Mem.cell, Mem.row, wmA, g48]
    refine hs8.store { ds0 with lb := tx0, pl := at0 } 0 (.string ⟨⟨tx0⟩⟩) (by simp [wkA, retV, stabOk, dC, ev, fillD, pickCells, putAt, bnd, slD, List.getElem?_cons_zero, List.getElem?_cons_succ, dR.eq_20]) (by simp [wkA, retV, stabOk, dC, ev, fillD, pickCells, putAt, bnd, slD, List.getElem?_cons_zero, List.getElem?_cons_succ, dR.eq_20]) rfl rfl (by omega) rfl fun M9 h9 o9 nM9 => ?_
    have g49 := (o9 m2.next (by omega)).trans g48
    simp -implicitDefEqProofs (disch := first | assumption | (simp only [wnA]; done) | (simp only [wnA]; omega) | omega | fail) [wkA, retV, stabOk, dC, ev, fillD, pickCells, putAt, bnd, slD, List.getElem?_cons_zero, List.getElem?_cons_succ, dR.eq_20, Mem.cell, Mem.row, wmA]
    refine c_take (kd := 1) (tx := []) h9.ps h9.sk hl fun m10 k10 p10 => ?_
    have hs10 := h9.call k10 p10 (takeF_k hE h9.sk (by decide))
    generalize takeF ts 1 [] ⟨k + 1, none⟩ = r at *
    obtain ⟨⟨⟨kd1, tx1, vl1⟩, at1⟩, s10⟩ := r
    simp only at hs10 hq
    have g410 := (k10.2 m2.next (by omega) (by omega)).trans g49
    have n410 : m2.next < m10.next := Nat.lt_of_lt_of_le (by omega) k10.1
    obtain ⟨M11, hM11, hs11, g411, n11⟩ := hs10.other (i4 := m2.next) (.own (putAt [.int .i64 kd0, .string ⟨⟨tx0⟩⟩, .int .i64 vl0, .int .i64 (tat : Int)] 0 [.int .i64 kd1, .string ⟨⟨tx1⟩⟩, .int .i64 vl1, .int .i64 (at1 : Int)]) 87) (by omega) (by omega) (by omega)
    simp -implicitDefEqProofs (disch := first | assumption | (simp only [wnA]; done) | (simp only [wnA]; omega) | omega | fail) [wkA, retV, stabOk, dC, ev, fillD, pickCells, putAt, bnd, slD, List.getElem?_cons_zero, List.getElem?_cons_succ, dR.eq_20, Mem.cell, Mem.row, wmA, cellP_mk]
    refine SK_stm (i := m2.next) (o := 0) (vs := [.int .i64 kd1, .string ⟨⟨tx1⟩⟩, .int .i64 vl1, .int .i64 (at1 : Int)]) (e := 87) (M := M11) (by simp [wkA, retV, stabOk, dC, ev, fillD, pickCells, putAt, bnd, slD, List.getElem?_cons_zero, List.getElem?_cons_succ, dR.eq_20]) g410 (by simp [wkA, retV, stabOk, dC, ev, fillD, pickCells, putAt, bnd, slD, List.getElem?_cons_zero, List.getElem?_cons_succ, dR.eq_20, cellP_mk]) (by simp) rfl rfl hM11 ?_
    simp -implicitDefEqProofs (disch := first | assumption | (simp only [wnA]; done) | (simp only [wnA]; omega) | omega | fail) [wkA, retV, stabOk, dC, ev, fillD, pickCells, putAt, bnd, slD, List.getElem?_cons_zero, List.getElem?_cons_succ, dR.eq_20, Mem.cell, Mem.row, wmA]
    refine w_from (t := (⟨kd1, tx1, vl1⟩, at1)) hs11 hl hE g411 (by omega) (by omega) (by simp [frA_at]) (by simp) (by simp) (by simp) fun fr' m' ob k p kl so hob al e2 g2 => ?_
    simp only [dsC] at g2
    simp -implicitDefEqProofs (disch := first | assumption | (simp only [wnA]; done) | (simp only [wnA]; omega) | omega | fail) [wkA, retV, stabOk, dC, ev, fillD, pickCells, putAt, bnd, slD, List.getElem?_cons_zero, List.getElem?_cons_succ, dR.eq_20, Mem.cell, Mem.row, wmA, e2, g2]
    exact hq m' ob k p kl so hob al
end Go.Proofs.YtjlicambfepfiaaGreatDoor.Ab

set_option linter.unusedVariables false
set_option linter.unusedSimpArgs false
namespace Go.Proofs.YtjlicambfepfiaaGreatDoor.Ab
open Go Go.RowKit
set_option maxHeartbeats 4000000
set_option maxRecDepth 100000

theorem numF_ge (most : Int) (ts : List (Tk × Nat)) (s : PS) : s.k ≤ (numF most ts s).2.k := by
  show s.k ≤ (numR most (takeF ts 2 [] s)).k
  rw [numR_k]; exact takeF_ge _ _ _ _
theorem toF_ge (ts : List (Tk × Nat)) (s : PS) : s.k ≤ (toF ts s).2.k := Nat.le_trans (takeF_ge _ _ _ _) (takeF_ge _ _ _ _)
theorem armsF_ge (ts : List (Tk × Nat)) : ∀ (n : Nat) (s : PS) (out : List Arm), s.k ≤ (armsF n ts s out).2.k
  | 0, s, out => Nat.le_refl _
  | n + 1, s, out => by
    have h := armF_ge ts s
    simp only [armsF]
    split
    · exact Nat.le_refl _
    · split
      · exact Nat.le_trans (Nat.le_trans h (Nat.le_succ _)) (armsF_ge ts n ⟨(armF ts s).2.k + 1, (armF ts s).2.err⟩ (out ++ [(armF ts s).1]))
      · exact h
theorem headF_ge (ts : List (Tk × Nat)) (s : PS) : s.k ≤ (headF ts s).2.2.k := by
  have h := takeF_ge ts 1 [] s
  unfold headF
  simp only
  split
  · exact Nat.le_trans (Nat.le_trans h (Nat.le_succ _)) (takeF_ge ts 1 [] ⟨(takeF ts 1 [] s).2.k + 1, _⟩)
  · exact h
theorem restK_ge (x : Nat) (ts : List (Tk × Nat)) (d : DS) (t : Tk × Nat) (s : PS) : s.k ≤ (restK x ts d t s).2.k := by
  unfold restK
  split
  · exact takeF_ge _ _ _ _
  · exact Nat.le_trans (armsF_ge ts _ s []) (Nat.le_trans (takeF_ge ts 1 afterL (armsL ts s).2) (Nat.le_trans (numF_ge 99 ts _) (toF_ge ts _)))
  · exact takeF_ge _ _ _ _
  · exact Nat.le_trans (numF_ge 9 ts s) (toF_ge ts _)
  · exact Nat.le_refl _
  · exact Nat.le_refl _
  · simp only
    split <;> exact Nat.le_refl _
def stepsF : Nat → List (Tk × Nat) → PS → List DS → List DS × Option (Nat × Nat)
  | 0, ts, s, out => (out, s.err)
  | f + 1, ts, s, out => if s.err = none ∧ (ts.getD s.k tok0).1.kd ≠ 0 then stepsF f ts (stepF ts s).2 (out ++ [(stepF ts s).1]) else (out, s.err)
def parseD (ts : List (Tk × Nat)) : List DS × Option (Nat × Nat) := stepsF ts.length ts ⟨0, none⟩ []
def mu (ts : List (Tk × Nat)) (s : PS) : Nat := match s.err with
  | none => ts.length - s.k
  | some _ => 0
theorem mu_step {ts : List (Tk × Nat)} {s : PS} (hk : s.k < ts.length) (h : s.err = none) : mu ts (stepF ts s).2 < mu ts s := by
  have h1 : mu ts s = ts.length - s.k := by simp [mu, h]
  cases h2 : (stepF ts s).2.err with
  | some e =>
    have : mu ts (stepF ts s).2 = 0 := by simp [mu, h2]
    omega
  | none =>
    have h4 : mu ts (stepF ts s).2 = ts.length - (stepF ts s).2.k := by simp [mu, h2]
    have h3 : s.k + 1 ≤ (stepF ts s).2.k := by
      unfold stepF at h2 ⊢
      simp only at h2 ⊢
      obtain ⟨-, -, e⟩ := takeF_none h2
      rw [e]
      exact Nat.succ_le_succ (Nat.le_trans (headF_ge ts s) (restK_ge _ ts _ _ _))
    rw [h1, h4]
    omega
theorem stop_step {ts : List (Tk × Nat)} {s : PS} {out : List DS} (h : ¬ (s.err = none ∧ (ts.getD s.k tok0).1.kd ≠ 0)) : ∀ n, stepsF n ts s out = (out, s.err)
  | 0 => rfl
  | n + 1 => by rw [stepsF, if_neg h]
/-- A step and the block of its patterns. -/
abbrev DB := DS × Option Nat
def dbC (x : DB) : List Value := dsC x.1 (slV x.2 x.1.arms.length 2)
/-- Steps whose patterns lie in blocks of their own. -/
def ArmsAt (m : Mem) (base : Nat) (l : List DB) : Prop := ∀ x ∈ l, SlO m 49 2 x.2 (x.1.arms.flatMap Arm.cells) x.1.arms.length ∧ (∀ i, x.2 = some i → base ≤ i)
theorem dbC_len (x : DB) : (dbC x).length = 7 := rfl

theorem c_Parse {w0 : World} {m : Mem} {S : ByteArray} {Q : Value → Mem → Prop} (hp : Part L0 m) (ht : Ten w0) (hE : ErrV w0)
    (hb : 4096 < S.size → ∀ m', Old m m' → Q (.tuple ⟨[.slice none 0 0, faultV 7 0]⟩) m')
    (hx : S.size ≤ 4096 → ∀ m' a, Old m m' → cutL 0 S.data.toList = .inl a → Q (.tuple ⟨[.slice none 0 0, faultV 1 a]⟩) m')
    (he : S.size ≤ 4096 → ∀ m' us e, Old m m' → cutL 0 S.data.toList = .inr us → (parseD us).2 = some e → Q (.tuple ⟨[.slice none 0 0, faultV e.1 e.2]⟩) m')
    (hq : S.size ≤ 4096 → ∀ m' us ob l, Old m m' → cutL 0 S.data.toList = .inr us → us.length ≤ S.size + 1 → parseD us = (l.map Prod.fst, none) → SlO m' 29 7 ob (l.flatMap dbC) l.length → (∀ i, ob = some i → m.next ≤ i) → ArmsAt m' m.next l → l.length ≤ us.length → Q (.tuple ⟨[slV ob l.length 7, .nilIface]⟩) m') :
    AbC Tryz.prog w0 18 [.string S] m Q := by
  refine AbC_fn ok18 (by simp) ?_
  simp -implicitDefEqProofs (disch := first | assumption | (simp only [wnA]; done) | (simp only [wnA]; omega) | omega | fail) [rc18, ro18, wkA, retV, stabOk, dC, ev, fillD, pickCells, putAt, bnd, slD, List.getElem?_cons_zero, List.getElem?_cons_succ, dR.eq_20, Mem.cell, Mem.row, wmA]
  refine c_tCut hp ht hE (fun hs m1 o1 => ?_) (fun hs m1 a o1 hc => ?_) fun hs m1 it us o1 h1 hi hul hc => ?_
  · have hf : faultV 7 0 = .iface 92 (.agg ⟨[.int .i64 ((7 : Nat) : Int), .int .i64 ((0 : Nat) : Int)]⟩) := rfl
    have hb := hb hs m1 o1
    rw [hf] at hb
    simp -implicitDefEqProofs (disch := first | assumption | (simp only [wnA]; done) | (simp only [wnA]; omega) | omega | fail) [wkA, retV, stabOk, dC, ev, fillD, pickCells, putAt, bnd, slD, List.getElem?_cons_zero, List.getElem?_cons_succ, dR.eq_20, Mem.cell, Mem.row, wmA, hf]
    exact hb
  · have hf : faultV 1 a = .iface 92 (.agg ⟨[.int .i64 ((1 : Nat) : Int), .int .i64 (a : Int)]⟩) := rfl
    have hx := hx hs m1 a o1 hc
    rw [hf] at hx
    simp -implicitDefEqProofs (disch := first | assumption | (simp only [wnA]; done) | (simp only [wnA]; omega) | omega | fail) [wkA, retV, stabOk, dC, ev, fillD, pickCells, putAt, bnd, slD, List.getElem?_cons_zero, List.getElem?_cons_succ, dR.eq_20, Mem.cell, Mem.row, wmA, hf]
    exact hx
  · have hE : EndOk us := by
      obtain ⟨-, ini, hini⟩ := (cut_places S.data.toList S.data.toList.length 0 (by omega) (by omega)).2 us hc
      unfold EndOk
      rw [hini]
      simp [endT]
    have hpos : 0 < us.length := by
      obtain ⟨-, ini, hini⟩ := (cut_places S.data.toList S.data.toList.length 0 (by omega) (by omega)).2 us hc
      rw [hini]; simp
    simp -implicitDefEqProofs (disch := first | assumption | (simp only [wnA]; done) | (simp only [wnA]; omega) | omega | fail) [wkA, retV, stabOk, dC, ev, fillD, pickCells, putAt, bnd, slD, List.getElem?_cons_zero, List.getElem?_cons_succ, dR.eq_20, Mem.cell, Mem.row, wmA, rc18_4]
    obtain ⟨ip, hip⟩ : ∃ ip, m1.next = ip := ⟨_, rfl⟩
    obtain ⟨b, hbb⟩ : ∃ b, m1.push (.own [slV (some it) us.length 4, .int .i64 0, .nilIface] 84) = b := ⟨_, rfl⟩
    have oB : Old m1 b := by subst hbb; exact (Old.refl m1).push _
    have pB : PsAt b ip it us ⟨0, none⟩ := by
      subst hbb hip
      exact ⟨by rw [Mem.push_same]; rfl, by rw [Mem.push_old _ _ h1.lt]; exact h1.2.1, by simp, by have := h1.lt; simp; omega, by have := h1.lt; omega⟩
    have nB : b.next = ip + 1 := by subst hbb hip; rfl
    have fin : ∀ m', Kept ip b m' → Old m m' := fun m' k => ⟨by have := o1.1; have := oB.1; have := k.1; omega, fun i hi => by
      have := o1.1
      rw [k.2 i (by omega) (by omega), oB.2 i (by omega), o1.2 i hi]⟩
    have hlm : m.next ≤ b.next := by have := o1.1; omega
    simp only [hbb, hip]
    clear hbb
    refine LoopW_of (fun n fr m' => ∃ s l ob, mu us s ≤ n ∧ s.k < us.length ∧ stepsF n us s (l.map Prod.fst) = parseD us ∧ ArmsAt m' b.next l ∧ Kept ip b m' ∧ PsAt m' ip it us s ∧ SlO m' 29 7 ob (l.flatMap dbC) l.length ∧ (∀ i, ob = some i → b.next ≤ i) ∧ l.length + mu us s ≤ us.length ∧ fr 6 = .pointer (some ⟨ip, 0, none⟩) ∧ fr 7 = slV ob l.length 7) us.length ?_ ?_
    · exact ⟨⟨0, none⟩, [], none, by simp [mu], hpos, rfl, (fun x h => by cases h), Kept.refl _ _, pB, ⟨rfl, rfl⟩, (fun i h => by cases h), by simp [mu], by simp, by simp; rfl⟩
    · rintro n fr m' K ⟨s, l, ob, hmu, hk, hpa, hAA, kB, pS, so, hob, hol, f6, f7⟩ hK
      obtain ⟨k, err⟩ := s
      have hk : k < us.length := hk
      have oF := fin m' kB
      cases err with
      | some e =>
        have gp : m'.get ip = .own [.slice (some ⟨it, 0, none⟩) us.length 4, .int .i64 (k : Int), .iface 92 (.agg ⟨[.int .i64 (e.1 : Int), .int .i64 (e.2 : Int)]⟩)] 84 := pS.1
        have hpe : parseD us = (l.map Prod.fst, some e) := by rw [← hpa]; exact stop_step (fun h => by cases h.1) n
        have he := he hs m' us e oF hc (by rw [hpe])
        simp only [faultV] at he
        simp -implicitDefEqProofs (disch := first | assumption | (simp only [wnA]; done) | (simp only [wnA]; omega) | omega | fail) [wkA, retV, stabOk, dC, ev, fillD, pickCells, putAt, bnd, slD, List.getElem?_cons_zero, List.getElem?_cons_succ, dR.eq_20, Mem.cell, Mem.row, wmA, rc18_1, rc18_3, f6, gp]
        exact he
      | none =>
        have gp : m'.get ip = .own [.slice (some ⟨it, 0, none⟩) us.length 4, .int .i64 (k : Int), .nilIface] 84 := pS.1
        have hidx : sidx 4 (.slice (some ⟨it, 0, none⟩) us.length 4) (.int .i64 (k : Int)) = some (.pointer (some ⟨it, 0 + k * 4, none⟩)) := sidx_at hk
        rw [Nat.zero_add] at hidx
        have gt := pS.2.1
        have g0 : (us.flatMap cellP)[k * 4]? = some (.int .i64 (us.getD k tok0).1.kd) := by
          have := flat_at' cellP_len us (List.getElem?_eq_getElem hk) (show 0 < 4 by omega)
          have e : us.getD k tok0 = us[k] := by simp [List.getD, List.getElem?_eq_getElem hk]
          rw [e]
          exact this
        obtain ⟨kd0, hkd0⟩ : ∃ x, (us.getD k tok0).1.kd = x := ⟨_, rfl⟩
        rw [hkd0] at g0
        by_cases hkd : kd0 = 0
        · have hpe : parseD us = (l.map Prod.fst, none) := by rw [← hpa]; exact stop_step (fun h => h.2 (hkd0.trans hkd)) n
          have hq := hq hs m' us ob l oF hc hul hpe so (fun i h => by have := hob i h; omega) (fun x hx => ⟨(hAA x hx).1, fun i h => by have := (hAA x hx).2 i h; omega⟩) (by omega)
          rw [hkd] at g0
          obtain ⟨L, hL⟩ : ∃ L, us.flatMap cellP = L := ⟨_, rfl⟩
          rw [hL] at gt g0
          simp -implicitDefEqProofs (disch := first | assumption | (simp only [wnA]; done) | (simp only [wnA]; omega) | omega | fail) [wkA, retV, stabOk, dC, ev, fillD, pickCells, putAt, bnd, slD, List.getElem?_cons_zero, List.getElem?_cons_succ, dR.eq_20, Mem.cell, Mem.row, wmA, rc18_1, rc18_3, rc18_2, f6, f7, gp, hidx, gt, g0]
          exact hq
        · have hm1 : mu us ⟨k, none⟩ = us.length - k := rfl
          obtain ⟨n, rfl⟩ : ∃ n', n = n' + 1 := ⟨n - 1, by omega⟩
          have hmu2 := mu_step (s := ⟨k, none⟩) hk rfl
          rw [stepsF, if_pos ⟨rfl, fun e => hkd (hkd0.symm.trans e)⟩] at hpa
          obtain ⟨L, hL⟩ : ∃ L, us.flatMap cellP = L := ⟨_, rfl⟩
          rw [hL] at gt g0
          simp -implicitDefEqProofs (disch := first | assumption | (simp only [wnA]; done) | (simp only [wnA]; omega) | omega | fail) [wkA, retV, stabOk, dC, ev, fillD, pickCells, putAt, bnd, slD, List.getElem?_cons_zero, List.getElem?_cons_succ, dR.eq_20, Mem.cell, Mem.row, wmA, rc18_1, rc18_0, f6, f7, gp, hidx, gt, g0, bneT hkd]
          refine c_step pS hk (by omega) hE fun m2 oa k2 p2 hk2 sa hoa ala => ?_
          generalize stepF us ⟨k, none⟩ = r at *
          obtain ⟨d, s2⟩ := r
          simp only at p2 hk2 sa hoa ala hpa hmu2
          have hav : oneC (slV oa d.arms.length 2) = true := by cases oa <;> rfl
          have hav2 : cellsV (slV oa d.arms.length 2) = [slV oa d.arms.length 2] := by cases oa <;> rfl
          have hdb : dbC (d, oa) = dsC d (slV oa d.arms.length 2) := rfl
          obtain ⟨av, hav0⟩ : ∃ av, slV oa d.arms.length 2 = av := ⟨_, rfl⟩
          rw [hav0] at hav hdb hav2
          simp -implicitDefEqProofs (disch := first | assumption | (simp only [wnA]; done) | (simp only [wnA]; omega) | omega | fail) [wkA, retV, stabOk, dC, ev, fillD, pickCells, putAt, bnd, slD, List.getElem?_cons_zero, List.getElem?_cons_succ, dR.eq_20, Mem.cell, Mem.row, wmA, hav0]
          rw [SK_bsl (cs := dsC d av) (by simp [wkA, retV, stabOk, dC, ev, fillD, pickCells, putAt, bnd, slD, List.getElem?_cons_zero, List.getElem?_cons_succ, dR.eq_20, dsC]) (by simp [dsC])]
          obtain ⟨m3, hm3⟩ : ∃ m3, m2.push (.own (dsC d av) 29) = m3 := ⟨_, rfl⟩
          have o3 : Old m2 m3 := by subst hm3; exact (Old.refl m2).push _
          have g3 : m3.get m2.next = .own (dsC d av) 29 := by subst hm3; rw [Mem.push_same]
          have n3 : m3.next = m2.next + 1 := by subst hm3; rfl
          simp -implicitDefEqProofs (disch := first | assumption | (simp only [wnA]; done) | (simp only [wnA]; omega) | omega | fail) [wkA, retV, stabOk, dC, ev, fillD, pickCells, putAt, bnd, slD, List.getElem?_cons_zero, List.getElem?_cons_succ, dR.eq_20, Mem.cell, Mem.row, wmA, hm3]
          clear hm3
          have K3 : Kept ip b m3 := (kB.trans k2).trans o3.kept
          have p3 := p2.old o3
          have s3 : SlO m3 29 7 ob (l.flatMap dbC) l.length := so.keep (by have := k2.1; have := o3.1; omega) fun j hj => by
            have h1 := hob j hj
            have h2 : j < m'.next := by subst hj; exact so.lt
            rw [o3.2 j (by have := k2.1; omega), k2.2 j h2 (by omega)]
          have hAA3 : ArmsAt m3 b.next (l ++ [(d, oa)]) := by
            intro x hx
            rcases List.mem_append.1 hx with hx | hx
            · refine ⟨(hAA x hx).1.keep (by have := k2.1; have := o3.1; omega) fun j hj => ?_, (hAA x hx).2⟩
              have h1 := (hAA x hx).2 j hj
              have h2 : j < m'.next := (by have := (hAA x hx).1; rw [hj] at this; exact this.lt)
              rw [o3.2 j (by have := k2.1; omega), k2.2 j h2 (by omega)]
            · rw [List.mem_singleton] at hx
              subst hx
              exact ⟨sa.keep o3.1 fun j hj => o3.2 j (by have hj : oa = some j := hj; subst hj; exact sa.lt), fun i hi => Nat.le_trans kB.1 (hoa i hi)⟩
          refine SK_ap (ob := ob) (n := l.length) (k := 1) (cs := l.flatMap dbC) (ys := dsC d av) s3 (by simp [wkA, retV, stabOk, dC, ev, fillD, pickCells, putAt, bnd, slD, List.getElem?_cons_zero, List.getElem?_cons_succ, dR.eq_20]) (by simp -implicitDefEqProofs (disch := first | assumption | (simp only [wnA]; done) | (simp only [wnA]; omega) | omega | fail) [wkA, retV, stabOk, dC, ev, fillD, pickCells, putAt, bnd, slD, List.getElem?_cons_zero, List.getElem?_cons_succ, dR.eq_20, elemsV, Mem.cell, Mem.row, wmA, g3, dsC]) (by simp [wkA, retV, stabOk, dC, ev, fillD, pickCells, putAt, bnd, slD, List.getElem?_cons_zero, List.getElem?_cons_succ, dR.eq_20]) (by omega) ?_ (by omega) (by simp only [maxLen]; omega) rfl ?_
          · simp only [dsC, List.all_cons, List.all_nil, hav]; rfl
          have o4 : Old (b.set ip (m3.get ip)) ((m3.kill ob).push (.own (l.flatMap dbC ++ dsC d av) 29)) := ((kept_old K3).kill hob).push _
          have s4 : SlO ((m3.kill ob).push (.own (l.flatMap dbC ++ dsC d av) 29)) 29 7 (some m3.next) (l.flatMap dbC ++ dsC d av) (l.length + 1) := SlO.new (by rw [List.length_append, s3.1]; show l.length * 7 + 7 = _; omega)
          have A4 : ArmsAt ((m3.kill ob).push (.own (l.flatMap dbC ++ dsC d av) 29)) b.next (l ++ [(d, oa)]) := fun x hx => ⟨((hAA3 x hx).1.kill ((hAA3 x hx).1.ne2 s3 (by decide))).push _, (hAA3 x hx).2⟩
          have n4 : b.next ≤ m3.next := K3.1
          generalize (m3.kill ob).push (.own (l.flatMap dbC ++ dsC d av) 29) = m4 at *
          simp -implicitDefEqProofs (disch := first | assumption | (simp only [wnA]; done) | (simp only [wnA]; omega) | omega | fail) [wkA, retV, stabOk, dC, ev, fillD, pickCells, putAt, bnd, slD, List.getElem?_cons_zero, List.getElem?_cons_succ, dR.eq_20, Mem.cell, Mem.row, wmA]
          have K4 : Kept ip b m4 := ⟨o4.1, fun i hi hn => by rw [o4.2 i hi, Mem.set_other _ _ hn]⟩
          have gi : m4.get ip = m3.get ip := by rw [o4.2 ip (by show ip < b.next; omega), Mem.set_same]
          have p4 : PsAt m4 ip it us s2 := by
            obtain ⟨x1, x2, x3, x4, x5⟩ := p3
            have hitb : it < b.next := pB.2.2.2.1
            exact ⟨by rw [gi]; exact x1, by rw [K4.2 it hitb (fun e => x5 e.symm), pB.2.1], by have := o4.1; show ip < m4.next; have : b.next ≤ m4.next := this; omega, by have : b.next ≤ m4.next := o4.1; omega, x5⟩
          refine hK n _ m4 (by omega) ⟨s2, l ++ [(d, oa)], some m3.next, ?_, hk2, ?_, A4, K4, p4, ?_, ?_, ?_, ?_, ?_⟩
          · omega
          · simpa using hpa
          · rw [List.flatMap_append, List.length_append]
            simpa [hdb] using s4
          · intro i hi; cases hi; exact n4
          · simp
            omega
          · simp [f6]
          · simp
end Go.Proofs.YtjlicambfepfiaaGreatDoor.Ab

set_option linter.unusedVariables false
set_option linter.unusedSimpArgs false
namespace Go.Proofs.YtjlicambfepfiaaGreatDoor.Ab
open Go Go.RowKit
set_option maxHeartbeats 4000000
set_option maxRecDepth 100000

theorem c_JoinA {w0 : World} {m : Mem} {v : Value} {xs : List ByteArray} {sep : ByteArray} {Q : Value → Mem → Prop} (hv : SlR m 1 v (xs.map .string) xs.length) (hvb : ∀ b, blk v = some b → b < m.next) (hs : 0 < sep.size) (hl : (sep.size + 1) * xs.length + totL xs ≤ 140737488355328)
    (hq : ∀ m', Old m m' → Q (.string ⟨⟨joinL sep.data.toList xs⟩⟩) m') : AbC Tryz.prog w0 60 [v, .string sep] m Q := by
  match xs, hv, hl, hq with
  | [], hv, hl, hq =>
    refine AbC_fn ok60 (by simp) ?_
    have hsl := hv.slen
    simp only [List.length_nil] at hsl
    simp -implicitDefEqProofs (disch := first | assumption | (simp only [wnA]; done) | (simp only [wnA]; omega) | omega | fail) [rc60, ro60, wkA, retV, stabOk, dC, ev, fillD, pickCells, putAt, bnd, slD, List.getElem?_cons_zero, List.getElem?_cons_succ, dR.eq_20, Mem.cell, Mem.row, wmA, hsl]
    exact hq m (Old.refl m)
  | [x], hv, hl, hq =>
    refine AbC_fn ok60 (by simp) ?_
    have hsl := hv.slen
    obtain ⟨bi, bo, L, hvv, hL, hLl, -, hLc⟩ := hv.at (j := 0) (by simp)
    have hc := hLc 0 (by omega)
    simp only [List.map_cons, List.map_nil, List.length_cons, List.length_nil, Nat.zero_mul, Nat.add_zero, List.getElem?_cons_zero] at hc hvv hsl
    have hs0 : sidx 1 v (.int .i64 0) = some (.pointer (some ⟨bi, bo, none⟩)) := by
      have := sidx_at (b := bi) (o := bo) (n := 1) (c := 1) (j := 0) (sz := 1) (k := .i64) (by omega)
      simpa [hvv] using this
    simp -implicitDefEqProofs (disch := first | assumption | (simp only [wnA]; done) | (simp only [wnA]; omega) | omega | fail) [rc60, ro60, wkA, retV, stabOk, dC, ev, fillD, pickCells, putAt, bnd, slD, List.getElem?_cons_zero, List.getElem?_cons_succ, dR.eq_20, Mem.cell, Mem.row, wmA, hsl, hs0, hL, hc, getL hc]
    have := hq m (Old.refl m)
    simpa [joinL] using this
  | x :: y :: r, hv, hl, hq => exact c_Join hv hvb (by simp) hs hl hq

def goS : List UInt8 := [32, 103, 111, 32]
def armL (a : Arm) : List UInt8 := qL a.pat ++ goS ++ a.to
def armB (a : Arm) : ByteArray := ⟨⟨armL a⟩⟩
def kN (k : Int) : Nat := if k < 0 then 0 else if k > 5 then 5 else k.toNat
def joinA (l : List Arm) : List UInt8 := joinL [44, 32] (l.map armB)
def restX (k : Nat) (d : DS) : List UInt8 := match k with
  | 0 => 32 :: qL d.tx
  | 1 => 32 :: joinA d.arms ++ 32 :: afterL ++ 32 :: numS 10 d.n ++ goS ++ d.to
  | 2 => 32 :: d.to
  | 3 => 32 :: numS 10 d.n ++ goS ++ d.to
  | _ => []
def restL (d : DS) : List UInt8 := restX (kN d.kd) d
def labL (d : DS) : List UInt8 := if d.lb = [] then [] else d.lb ++ [58, 32]
def lineD (d : DS) : List UInt8 := labL d ++ wordsL.getD (kN d.kd) [] ++ restL d ++ [59, 10]
/-- How much a step's text takes, at most. -/
def wArms (l : List Arm) : Nat := (l.map fun a => 2 * a.pat.length + a.to.length + 64).sum
def wD (d : DS) : Nat := d.lb.length + 2 * d.tx.length + d.to.length + wArms d.arms + 128
theorem wArms_len (l : List Arm) : 64 * l.length ≤ wArms l := by
  induction l with
  | nil => simp [wArms]
  | cons a l ih => simp only [wArms, List.map_cons, List.sum_cons, List.length_cons] at ih ⊢; omega
theorem armL_len (a : Arm) : (armL a).length ≤ 2 * a.pat.length + a.to.length + 6 := by
  have := qL_len a.pat
  simp [armL, goS]; omega
theorem wArms_mem {l : List Arm} {a : Arm} (h : a ∈ l) : 2 * a.pat.length + a.to.length + 64 ≤ wArms l := by
  induction l with
  | nil => cases h
  | cons b l ih =>
    simp only [wArms, List.map_cons, List.sum_cons] at ih ⊢
    rcases List.mem_cons.1 h with rfl | h
    · omega
    · have := ih h; omega
theorem totA_le (l : List Arm) : 3 * (l.map armB).length + totL (l.map armB) ≤ wArms l := by
  induction l with
  | nil => simp [totL, wArms]
  | cons a l ih =>
    have := armL_len a
    have e : (armB a).size = (armL a).length := by simp [armB, ByteArray.size]
    simp only [totL, wArms, List.map_cons, List.sum_cons, List.length_cons, e] at ih ⊢
    omega
theorem joinL_len (sep : List UInt8) (xs : List ByteArray) : (joinL sep xs).length ≤ sep.length * xs.length + totL xs := by
  cases xs with
  | nil => simp [joinL]
  | cons x r =>
    have := flat_sep_len sep r
    have e : x.data.toList.length = x.size := by simp
    simp only [joinL, List.length_append, this, totL, List.map_cons, List.sum_cons, List.length_cons, Nat.mul_add, e]
    omega
theorem joinA_len (l : List Arm) : (joinA l).length ≤ wArms l := by
  have h1 := joinL_len [44, 32] (l.map armB)
  have h2 := totA_le l
  simp only [List.length_cons, List.length_nil] at h1
  unfold joinA
  omega
theorem kN_le (k : Int) : kN k ≤ 5 := by unfold kN; split <;> (try split) <;> omega
theorem kN_eq (k : Int) : (if (if k < 5 then k else 5) > 0 then (if k < 5 then k else 5) else 0) = (kN k : Int) := by
  by_cases h0 : k < 0
  · rw [if_pos (show k < 5 by omega), if_neg (show ¬ k > 0 by omega)]
    simp [kN, h0]
  · by_cases h5 : k < 5
    · rw [if_pos h5]
      simp only [kN, if_neg h0, if_neg (show ¬ k > 5 by omega)]
      split <;> omega
    · rw [if_neg h5, if_pos (by omega)]
      unfold kN
      rw [if_neg h0]
      split <;> omega
theorem cat2 {a b : List UInt8} (h : a.length + b.length ≤ 9223372036854775807) : dBin .add (.string ⟨⟨a⟩⟩) (.string ⟨⟨b⟩⟩) = some (.string ⟨⟨a ++ b⟩⟩) := by
  rw [dBin_sadd (by exact h), bApp_eq]
theorem num_len10 {i : Int} (hi : -9223372036854775808 ≤ i ∧ i ≤ 9223372036854775807) : (numS 10 i).length ≤ 23 := by
  have := digs_64 (b := 10) (n := i.natAbs) (by omega) (by omega)
  unfold numS sgn
  split <;> simp <;> omega
theorem Bld.keep {base m m' : Mem} {i : Nat} {bs : List UInt8} (h : Bld base m i bs) (o : Old m m') : Bld base m' i bs := by
  obtain ⟨h1, h2, h3, pa, ob, h4, h5, h6, hz, h7⟩ := h
  refine ⟨h1.trans o, h2, Nat.lt_of_lt_of_le h3 o.1, pa, ob, by rw [o.2 _ h3]; exact h4, h5, h6.keep o.1 fun b hb => o.2 b ?_, hz, h7⟩
  subst hb
  exact h6.lt

theorem w_arms {w0 : World} {Q : AQ} {fr : Fr} {m : Mem} {av : Value} {l : List Arm} (hv : SlR m 2 av (l.flatMap Arm.cells) l.length) (hvb : ∀ b, blk av = some b → b < m.next) (hl : wArms l ≤ 1099511627776)
    (e7 : fr 7 = .slice none 0 0) (e44 : fr 44 = av) (e45 : fr 45 = .int .i64 (l.length : Nat)) (e46 : fr 46 = .int .i64 0)
    (hq : ∀ fr' m' ob, Old m m' → (∀ k ∈ [1, 3], fr' k = fr k) → SlO m' 9 1 ob ((l.map armB).map .string) l.length → (∀ b, ob = some b → m.next ≤ b) → fr' 7 = slV ob l.length 1 → Q .normal fr' m') : LoopW (AbW Tryz.prog w0 rc39_1) (inBlockA 1 Q) fr m := by
  have hll := wArms_len l
  refine LoopW_of (fun k ts m' => ∃ j ob, j + k = l.length ∧ Old m m' ∧ (∀ k ∈ [1, 3], ts k = fr k) ∧ ts 44 = av ∧ ts 45 = .int .i64 (l.length : Nat) ∧ ts 46 = .int .i64 (j : Nat) ∧ ts 7 = slV ob j 1 ∧ SlO m' 9 1 ob (((l.take j).map armB).map .string) j ∧ (∀ b, ob = some b → m.next ≤ b)) l.length ?_ ?_
  · exact ⟨0, none, by omega, Old.refl m, fun k _ => rfl, e44, e45, e46, by rw [e7]; rfl, ⟨rfl, rfl⟩, (fun b h => by cases h)⟩
  · rintro k ts m1 K ⟨j, ob, hj, o1, sm, t44, t45, t46, t7, so, hob⟩ hK
    simp -implicitDefEqProofs (disch := first | assumption | (simp only [wnA]; done) | (simp only [wnA]; omega) | omega | fail) [rc39_1, wkA, retV, stabOk, dC, ev, fillD, pickCells, putAt, bnd, slD, List.getElem?_cons_zero, List.getElem?_cons_succ, dR.eq_20, Mem.cell, Mem.row, wmA, t45, t46]
    by_cases hjl : j < l.length
    · have hv1 : SlR m1 2 av (l.flatMap Arm.cells) l.length := hv.keep fun b h => o1.2 b (hvb b h)
      obtain ⟨bi, bo, L, hvv, hL, hLl, hLt, -⟩ := hv1.at hjl
      rw [flat_at arl l (List.getElem?_eq_getElem hjl)] at hLt
      obtain ⟨a, hx⟩ : ∃ a, l[j] = a := ⟨_, rfl⟩
      have ham : a ∈ l := by rw [← hx]; exact List.getElem_mem hjl
      have hw := wArms_mem ham
      have hnx : (l.take (j + 1)).map armB = (l.take j).map armB ++ [armB a] := by
        rw [List.take_succ_eq_append_getElem hjl, List.map_append, hx]; simp
      rw [hx] at hLt
      obtain ⟨pt, tt⟩ := a
      have hLt : (L.drop (bo + j * 2)).take 2 = [.string ⟨⟨pt⟩⟩, .string ⟨⟨tt⟩⟩] := hLt
      rw [hvv] at t44
      have hle : bo + j * 2 + 2 ≤ L.length := by omega
      have hjw : IntKind.i64.wrap ((j : Int) + 1) = ((j + 1 : Nat) : Int) := by rw [w64 (by omega)]; omega
      simp -implicitDefEqProofs (disch := first | assumption | (simp only [wnA]; done) | (simp only [wnA]; omega) | omega | fail) [hjl, rc39_0, wkA, retV, stabOk, dC, ev, fillD, pickCells, putAt, bnd, slD, List.getElem?_cons_zero, List.getElem?_cons_succ, dR.eq_20, Mem.cell, Mem.row, wmA, t44, t45, t46, sidx_at, hL, hLt, hle]
      obtain ⟨M, hM⟩ : ∃ M, (m1.push (.own [.string ⟨#[]⟩, .string ⟨#[]⟩] 49)).set m1.next (.own (putAt [.string ⟨#[]⟩, .string ⟨#[]⟩] 0 [.string ⟨⟨pt⟩⟩, .string ⟨⟨tt⟩⟩]) 49) = M := ⟨_, rfl⟩
      refine SK_stm (i := m1.next) (o := 0) (vs := [.string ⟨⟨pt⟩⟩, .string ⟨⟨tt⟩⟩]) (cs := [.string ⟨#[]⟩, .string ⟨#[]⟩]) (e := 49) (M := M) (by simp [wkA, retV, stabOk, dC, ev, fillD, pickCells, putAt, bnd, slD, List.getElem?_cons_zero, List.getElem?_cons_succ, dR.eq_20]) (by simp -implicitDefEqProofs (disch := first | assumption | (simp only [wnA]; done) | (simp only [wnA]; omega) | omega | fail) [wkA, retV, stabOk, dC, ev, fillD, pickCells, putAt, bnd, slD, List.getElem?_cons_zero, List.getElem?_cons_succ, dR.eq_20, Mem.cell, Mem.row, wmA]) (by simp [wkA, retV, stabOk, dC, ev, fillD, pickCells, putAt, bnd, slD, List.getElem?_cons_zero, List.getElem?_cons_succ, dR.eq_20]) (by simp) rfl rfl hM ?_
      have oM : Old m1 M := by subst hM; exact ((Old.refl m1).push _).set (Nat.le_refl _) _
      have gM : M.get m1.next = .own [.string ⟨⟨pt⟩⟩, .string ⟨⟨tt⟩⟩] 49 := by subst hM; rw [Mem.set_same]; rfl
      have nM : m1.next < M.next := by subst hM; simp
      clear hM
      simp -implicitDefEqProofs (disch := first | assumption | (simp only [wnA]; done) | (simp only [wnA]; omega) | omega | fail) [wkA, retV, stabOk, dC, ev, fillD, pickCells, putAt, bnd, slD, List.getElem?_cons_zero, List.getElem?_cons_succ, dR.eq_20, Mem.cell, Mem.row, wmA, gM]
      refine c_Quote (by simp [ByteArray.size] at hw ⊢; omega) fun m2 o2 => ?_
      rw [quoteV_eq]
      have g2 := (o2.2 _ nM).trans gM
      have lq := qL_len pt
      simp only at hw
      have c1 := cat2 (a := qL pt) (b := [32, 103, 111, 32]) (by simp; omega)
      have c2 := cat2 (a := qL pt ++ [32, 103, 111, 32]) (b := tt) (by simp; omega)
      simp -implicitDefEqProofs (disch := first | assumption | (simp only [wnA]; done) | (simp only [wnA]; omega) | omega | (simp only [List.length_append, List.length_cons, List.length_nil]; omega) | fail) [wkA, retV, stabOk, dC, ev, fillD, pickCells, putAt, bnd, slD, List.getElem?_cons_zero, List.getElem?_cons_succ, dR.eq_20, Mem.cell, Mem.row, wmA, g2, c1, c2]
      rw [SK_bsl (cs := [.string (armB ⟨pt, tt⟩)]) (by simp [wkA, retV, stabOk, dC, ev, fillD, pickCells, putAt, bnd, slD, List.getElem?_cons_zero, List.getElem?_cons_succ, dR.eq_20, armB, armL, goS]) (by simp)]
      obtain ⟨m3, hm3⟩ : ∃ m3, m2.push (.own [.string (armB ⟨pt, tt⟩)] 9) = m3 := ⟨_, rfl⟩
      have o3 : Old m2 m3 := by subst hm3; exact (Old.refl m2).push _
      have g3 : m3.get m2.next = .own [.string (armB ⟨pt, tt⟩)] 9 := by subst hm3; rw [Mem.push_same]
      rw [hm3]
      clear hm3
      have O3 := (o1.trans oM).trans (o2.trans o3)
      have so3 : SlO m3 9 1 ob (((l.take j).map armB).map .string) j := so.keep (by have := oM.1; have := o2.1; have := o3.1; omega) fun b hb => by
        have hb1 : b < m1.next := by subst hb; exact so.lt
        exact ((oM.trans o2).trans o3).2 b hb1
      obtain ⟨S, hS⟩ : ∃ S : List Value, ((l.take j).map armB).map .string = S := ⟨_, rfl⟩
      have hnx2 : ((l.take (j + 1)).map armB).map .string = S ++ [.string (armB ⟨pt, tt⟩)] := by rw [hnx, List.map_append, hS]; rfl
      rw [hS] at so3
      simp -implicitDefEqProofs (disch := first | assumption | (simp only [wnA]; done) | (simp only [wnA]; omega) | omega | fail) [wkA, retV, stabOk, dC, ev, fillD, pickCells, putAt, bnd, slD, List.getElem?_cons_zero, List.getElem?_cons_succ, dR.eq_20, Mem.cell, Mem.row, wmA, t7]
      refine SK_ap (ob := ob) (n := j) (k := 1) (cs := S) (ys := [.string (armB ⟨pt, tt⟩)]) so3 (by simp [wkA, retV, stabOk, dC, ev, fillD, pickCells, putAt, bnd, slD, List.getElem?_cons_zero, List.getElem?_cons_succ, dR.eq_20, t7]) (by simp -implicitDefEqProofs (disch := first | assumption | (simp only [wnA]; done) | (simp only [wnA]; omega) | omega | fail) [wkA, retV, stabOk, dC, ev, fillD, pickCells, putAt, bnd, slD, List.getElem?_cons_zero, List.getElem?_cons_succ, dR.eq_20, elemsV, Mem.cell, Mem.row, wmA, g3]) (by simp [wkA, retV, stabOk, dC, ev, fillD, pickCells, putAt, bnd, slD, List.getElem?_cons_zero, List.getElem?_cons_succ, dR.eq_20]) (by omega) rfl (by omega) (by simp only [maxLen]; omega) rfl ?_
      simp -implicitDefEqProofs (disch := first | assumption | (simp only [wnA]; done) | (simp only [wnA]; omega) | omega | fail) [wkA, retV, stabOk, dC, ev, fillD, pickCells, putAt, bnd, slD, List.getElem?_cons_zero, List.getElem?_cons_succ, dR.eq_20, Mem.cell, Mem.row, wmA, t46, hjw]
      refine hK (k - 1) _ _ (by omega) ⟨j + 1, some m3.next, by omega, (O3.kill hob).push _, fun q hq => ?_, by simp [t44, hvv], by simp [t45], by simp, by simp, ?_, fun b hb => by cases hb; exact O3.1⟩
      · have := sm q hq
        simp only [List.mem_cons, List.not_mem_nil, or_false] at hq
        rcases hq with rfl | rfl <;> simp [this]
      · rw [hnx2]
        exact SlO.new (by rw [List.length_append, so3.1]; simp)
    · have hjj : j = l.length := by omega
      subst hjj
      rw [List.take_length] at so
      simp -implicitDefEqProofs (disch := first | assumption | (simp only [wnA]; done) | (simp only [wnA]; omega) | omega | fail) [hjl, wkA, retV, stabOk, dC, ev, fillD, pickCells, putAt, bnd, slD, List.getElem?_cons_zero, List.getElem?_cons_succ, dR.eq_20, Mem.cell, Mem.row, wmA]
      exact hq _ m1 ob o1 (fun q hq => by
        have := sm q hq
        simp only [List.mem_cons, List.not_mem_nil, or_false] at hq
        rcases hq with rfl | rfl <;> simp [this]) so hob (by simp [t7])
end Go.Proofs.YtjlicambfepfiaaGreatDoor.Ab
