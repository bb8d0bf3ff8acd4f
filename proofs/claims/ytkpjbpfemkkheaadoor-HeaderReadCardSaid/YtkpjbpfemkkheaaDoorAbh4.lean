/- Two files are told by the same data just if they are the same: the plain law. -/
import Derived.Test.YtkpjbpfemkkheaaDoorAbz
import Derived.Test.YtkpjbpfemkkheaaDoorAbh3
import Derived.Test.YtkpjbpfemkkheaaDoorAba1
set_option linter.unusedVariables false
set_option linter.unusedSimpArgs false
namespace Go.Proofs.YtkpjbpfemkkheaaDoor.Ab
open Go Go.RowKit
set_option maxHeartbeats 4000000
set_option maxRecDepth 100000

theorem split_at {x : UInt8} : ∀ {a b r s : List UInt8}, x ∉ a → x ∉ b → a ++ x :: r = b ++ x :: s → a = b ∧ r = s
  | [], [], r, s, _, _, h => by simpa using h
  | [], c :: b, r, s, _, hb, h => by simp at h; exact (hb (by simp [h.1])).elim
  | c :: a, [], r, s, ha, _, h => by simp at h; exact (ha (by simp [← h.1])).elim
  | c :: a, d :: b, r, s, ha, hb, h => by
    simp only [List.cons_append, List.cons.injEq] at h
    obtain ⟨rfl, h⟩ := h
    obtain ⟨rfl, rfl⟩ := split_at (fun e => ha (by simp [e])) (fun e => hb (by simp [e])) h
    exact ⟨rfl, rfl⟩
theorem take_pad {a : List UInt8} (h : (0 : UInt8) ∉ a) (k : Nat) : (a ++ List.replicate k 0).takeWhile (fun c => c != 0) = a := by
  induction a with
  | nil => cases k <;> simp [List.replicate_succ]
  | cons c a ih =>
    have hc : (c != 0) = true := by simp; exact fun e => h (by simp [e])
    simp only [List.cons_append, List.takeWhile_cons, hc, if_true]
    rw [ih (fun e => h (by simp [e]))]
def decC (c : UInt8) : Nat := if c.toNat < 58 then c.toNat - 48 else c.toNat - 87
theorem decC_at : ∀ d : Fin 36, decC (digC d.val) = d.val ∧ digC d.val ≠ 0 ∧ digC d.val ≠ 32 := by decide +kernel
def valD (b : Nat) (l : List UInt8) : Nat := l.foldl (fun a c => a * b + decC c) 0
theorem valD_digs {b : Nat} (hb : 2 ≤ b) (hb2 : b ≤ 36) : ∀ n, valD b (digs b n) = n := by
  intro n
  induction n using Nat.strongRecOn with
  | _ n ih =>
    by_cases h : n < b
    · rw [digs_lt h]
      simp [valD, (decC_at ⟨n, by omega⟩).1]
    · have h1 : n / b < n := Nat.div_lt_self (by omega) (by omega)
      have h2 : n % b < b := Nat.mod_lt _ (by omega)
      rw [digs_ge hb (by omega)]
      have := ih _ h1
      unfold valD at this ⊢
      rw [List.foldl_append, this]
      simp only [List.foldl_cons, List.foldl_nil]
      rw [(decC_at ⟨n % b, by omega⟩).1]
      have := Nat.div_add_mod n b
      rw [Nat.mul_comm] at this
      exact this
theorem digs_mem {b : Nat} (hb : 2 ≤ b) (hb2 : b ≤ 36) : ∀ n, ∀ c ∈ digs b n, c ≠ 0 ∧ c ≠ 32 := by
  intro n
  induction n using Nat.strongRecOn with
  | _ n ih =>
    intro c hc
    by_cases h : n < b
    · rw [digs_lt h] at hc
      simp at hc; subst hc
      exact (decC_at ⟨n, by omega⟩).2
    · have h1 : n / b < n := Nat.div_lt_self (by omega) (by omega)
      have h2 : n % b < b := Nat.mod_lt _ (by omega)
      rw [digs_ge hb (by omega), List.mem_append] at hc
      rcases hc with hc | hc
      · exact ih _ h1 c hc
      · simp at hc; subst hc
        exact (decC_at ⟨n % b, by omega⟩).2
theorem numS_mem {b : Nat} (hb : 2 ≤ b) (hb2 : b ≤ 36) (i : Int) : ∀ c ∈ numS b i, c ≠ 0 ∧ c ≠ 32 := by
  intro c hc
  unfold numS sgn at hc
  rw [List.mem_append] at hc
  rcases hc with hc | hc
  · split at hc
    · simp at hc; subst hc; decide
    · simp at hc
  · exact digs_mem hb hb2 _ c hc
theorem numS_inj {b : Nat} (hb : 2 ≤ b) (hb2 : b ≤ 36) {i j : Int} (hi : 0 ≤ i) (hj : 0 ≤ j) (h : numS b i = numS b j) : i = j := by
  unfold numS sgn at h
  rw [if_neg (by simpa using hi), if_neg (by simpa using hj)] at h
  simp only [List.nil_append] at h
  have := congrArg (valD b) h
  rw [valD_digs hb hb2, valD_digs hb hb2] at this
  omega
theorem nameB_mem {nm : ByteArray} (h : nameB nm = true) : (0 : UInt8) ∉ nm.data.toList := by
  intro hm
  obtain ⟨k, hk, hc⟩ := List.mem_iff_getElem.1 hm
  unfold nameB at h
  rw [Bool.and_eq_true, List.all_eq_true] at h
  have hk' : k < nm.size := by simpa using hk
  have := h.1 k (by simpa using hk')
  have h0 : byteAt nm k = 0 := by
    rw [(byteAt_get hk').2]
    have : nm[k] = nm.data.toList[k] := by simp; rfl
    rw [this, hc]; rfl
  rw [h0] at this
  simp [okc, letterB] at this
def sameB (f g : Fl) : Bool := (f.nm.data.toList == g.nm.data.toList) && ((f.size == g.size) && ((f.time == g.time) && (f.mode == g.mode)))
theorem tell_inj {f g : Fl} (hf : mayB f = true) (hg : mayB g = true) : (padL (tellL f) == padL (tellL g)) = sameB f g := by
  have lf := tell_len hf
  have lg := tell_len hg
  unfold mayB at hf hg
  simp only [Bool.and_eq_true, decide_eq_true_eq] at hf hg
  obtain ⟨f1, f2, f3, f4, f5, f6, f7⟩ := hf
  obtain ⟨g1, g2, g3, g4, g5, g6, g7⟩ := hg
  rw [Bool.eq_iff_iff]
  simp only [sameB, Bool.and_eq_true, beq_iff_eq]
  constructor
  · intro h
    unfold padL at h
    unfold tellL at h lf lg
    simp only [List.append_assoc, List.cons_append] at h
    obtain ⟨e1, h⟩ := split_at (nameB_mem f1) (nameB_mem g1) h
    have s10 := fun i e => (numS_mem (b := 10) (by omega) (by omega) i 32 e).2 rfl
    have s8 := fun i e => (numS_mem (b := 8) (by omega) (by omega) i 32 e).2 rfl
    have z8 := fun i e => (numS_mem (b := 8) (by omega) (by omega) i 0 e).1 rfl
    obtain ⟨e2, h⟩ := split_at (s10 _) (s10 _) h
    obtain ⟨e3, h⟩ := split_at (s8 _) (s8 _) h
    have e4 := congrArg (List.takeWhile (fun c => c != 0)) h
    rw [take_pad (z8 _), take_pad (z8 _)] at e4
    exact ⟨e1, numS_inj (by omega) (by omega) f2 g2 e2, numS_inj (by omega) (by omega) f4 g4 e3, numS_inj (by omega) (by omega) f6 g6 e4⟩
  · rintro ⟨e1, e2, e3, e4⟩
    unfold padL tellL
    rw [e1, e2, e3, e4]
theorem name_ok : ∀ M : Fin 11, okc 1 ((nameCs.getD M.val 0).toNat : Nat) = true := by decide +kernel
theorem byteAt_list (l : List UInt8) (k : Nat) : byteAt ⟨⟨l⟩⟩ k = ((l[k]?.getD 0).toNat : Nat) := by
  unfold byteAt
  congr 3
  show (if h : k < l.length then some _ else none) = _
  split
  · rename_i hj; rw [List.getElem?_eq_getElem hj]; rfl
  · rename_i hj; rw [List.getElem?_eq_none (by omega)]
theorem nameL_ok (ns : List UInt8) : nameB ⟨⟨nameL ns⟩⟩ = true := by
  unfold nameB
  have hs : (⟨⟨nameL ns⟩⟩ : ByteArray).size = (nameL ns).length := rfl
  have hl : (nameL ns).length = min 8 ns.length + 1 := by simp [nameL]
  rw [Bool.and_eq_true, List.all_eq_true, Bool.and_eq_true, decide_eq_true_eq, decide_eq_true_eq, hs, hl]
  refine ⟨fun k hk => ?_, by omega, by omega⟩
  rw [byteAt_list]
  cases k with
  | zero => simp [nameL, okc, letterB]
  | succ k =>
    have hk' : k < ((ns.take 8).map nch).length := by
      have := List.mem_range.1 hk; simp at this ⊢; omega
    have : (nameL ns)[k + 1]? = some (((ns.take 8).map nch)[k]) := by
      simp only [nameL, List.getElem?_cons_succ]; exact List.getElem?_eq_getElem hk'
    rw [this, List.getElem_map, Option.getD_some]
    generalize (ns.take 8)[k]'(by simpa using hk') = x
    have := name_ok ⟨x.toNat % 11, Nat.mod_lt _ (by omega)⟩
    have h2 : nch x = nameCs.getD (x.toNat % 11) 0 := rfl
    rw [h2]
    simp only [okc] at this ⊢
    simpa using this
end Go.Proofs.YtkpjbpfemkkheaaDoor.Ab
