/- The law's own tokens: signs, digits, values. -/
import Derived.Test.YtilknkpaghihhaaDoorAbz
import Derived.Test.YtilknkpaghihhaaDoorAbtkA
set_option linter.unusedVariables false
set_option linter.unusedSimpArgs false
namespace Go.Proofs.YtilknkpaghihhaaDoor.Ab
open Go Go.RowKit
set_option maxHeartbeats 1000000
set_option maxRecDepth 100000

theorem c_in {w0 : World} {m : Mem} {c : UInt8} {S : ByteArray} {Q : Value → Mem → Prop} (hs : S.size ≤ 1000000) (hq : Q (.bool (S.data.toList.contains c)) m) : AbC Tryd.prog w0 23 [.int .u8 (c.toNat : Int), .string S] m Q := by
  refine AbC_fn ok23 (by simp) ?_
  have hq' := fun b (h : S.data.toList.contains c = b) => h ▸ hq
  simp -implicitDefEqProofs (disch := first | assumption | (simp only [wnA]; done) | (simp only [wnA]; omega) | omega | fail) [rc23, ro23, wkA, retV, stabOk, dC, ev, fillD, pickCells, putAt, bnd, slD, List.getElem?_cons_zero, List.getElem?_cons_succ, dR.eq_20, Mem.cell, Mem.row, wmA]
  refine LoopW_of (fun k ts m' => ∃ j, j + k = S.size ∧ m' = m ∧ ts 0 = .int .u8 (c.toNat : Int) ∧ ts 1 = .string S ∧ ts 5 = .int .i64 (j : Nat) ∧ S.data.toList.contains c = (S.data.toList.drop j).contains c) S.size ?_ ?_
  · exact ⟨0, by omega, rfl, by simp [frA_at], by simp [frA_at], by simp, by simp⟩
  · rintro k ts m2 K ⟨j, hj, rfl, t0, t1, t5, hc⟩ hK
    simp -implicitDefEqProofs (disch := first | assumption | (simp only [wnA]; done) | (simp only [wnA]; omega) | omega | fail) [rc23_1, wkA, retV, stabOk, dC, ev, fillD, pickCells, putAt, bnd, slD, List.getElem?_cons_zero, List.getElem?_cons_succ, dR.eq_20, Mem.cell, Mem.row, wmA, t0, t1, t5]
    rcases hd : S.data.toList.drop j with _ | ⟨x, r⟩
    · have hjj := drop_nil hd (by omega)
      have hn : ¬ j < S.size := by omega
      rw [hd] at hc
      simp -implicitDefEqProofs (disch := first | assumption | (simp only [wnA]; done) | (simp only [wnA]; omega) | omega | fail) [wkA, retV, stabOk, dC, ev, fillD, pickCells, putAt, bnd, slD, List.getElem?_cons_zero, List.getElem?_cons_succ, dR.eq_20, Mem.cell, Mem.row, wmA, t0, t1, t5, hn, rc23_2]
      exact hq' _ (by rw [hc]; rfl)
    · obtain ⟨hlt, g1, hr⟩ := at_S hd
      rw [hd] at hc
      have w1 : IntKind.i64.wrap ((j : Int) + 1) = (j : Int) + 1 := w64 (by omega)
      by_cases hx : x = c
      · subst hx
        simp -implicitDefEqProofs (disch := first | assumption | (simp only [wnA]; done) | (simp only [wnA]; omega) | omega | fail) [wkA, retV, stabOk, dC, ev, fillD, pickCells, putAt, bnd, slD, List.getElem?_cons_zero, List.getElem?_cons_succ, dR.eq_20, Mem.cell, Mem.row, wmA, t0, t1, t5, hlt, g1, getOf g1, rc23_0]
        exact hq' _ (by rw [hc]; simp)
      · have ix : ¬ (x.toNat : Int) = (c.toNat : Int) := fun h => hx (UInt8.toNat_inj.1 (by omega))
        simp -implicitDefEqProofs (disch := first | assumption | (simp only [wnA]; done) | (simp only [wnA]; omega) | omega | fail) [wkA, retV, stabOk, dC, ev, fillD, pickCells, putAt, bnd, slD, List.getElem?_cons_zero, List.getElem?_cons_succ, dR.eq_20, Mem.cell, Mem.row, wmA, t0, t1, t5, hlt, g1, getOf g1, rc23_0, beqF ix, w1]
        refine hK (k - 1) _ m2 (by omega) ⟨j + 1, by omega, rfl, by simp [t0], by simp [t1], by simp, ?_⟩
        rw [hc, hr, List.contains_cons]
        have : (c == x) = false := by simpa using fun e => hx e.symm
        rw [this]; rfl

def hv (c : UInt8) : Nat := if c.toNat ≤ 57 then c.toNat - 48 else c.toNat - 97 + 10
theorem c_value {w0 : World} {m : Mem} {c : UInt8} {Q : Value → Mem → Prop} (hc : inB 16 c = true) (hq : Q (.int .u64 (hv c : Nat)) m) : AbC Tryd.prog w0 36 [.int .u8 (c.toNat : Int)] m Q := by
  refine AbC_fn ok36 (by simp) ?_
  have hq' := fun b (h : hv c = b) => h ▸ hq
  simp only [inB, isDig, isHx, Bool.or_eq_true, Bool.and_eq_true, decide_eq_true_eq] at hc
  simp only [hv] at hq'
  have hlt : c.toNat < 256 := c.toNat_lt
  by_cases h : c.toNat ≤ 57
  · have hi : (c.toNat : Int) ≤ 57 := by omega
    have h48 : 48 ≤ c.toNat := by omega
    have w8 : IntKind.u8.wrap ((c.toNat : Int) - 48) = ((c.toNat - 48 : Nat) : Int) := by rw [IntKind.wrap_u8]; omega
    have w6 : IntKind.u64.wrap ((c.toNat - 48 : Nat) : Int) = ((c.toNat - 48 : Nat) : Int) := IntWalk.u64_in _ (by omega)
    obtain ⟨K, hK⟩ : ∃ K, c.toNat - 48 = K := ⟨_, rfl⟩
    rw [hK] at w8 w6
    simp -implicitDefEqProofs (disch := first | assumption | (simp only [wnA]; done) | (simp only [wnA]; omega) | omega | fail) [rc36, ro36, wkA, retV, stabOk, dC, ev, fillD, pickCells, putAt, bnd, slD, List.getElem?_cons_zero, List.getElem?_cons_succ, dR.eq_20, Mem.cell, Mem.row, wmA, hi, w8, w6]
    exact hq' K (by rw [if_pos h]; exact hK)
  · have hi : ¬ (c.toNat : Int) ≤ 57 := by omega
    have h97 : 97 ≤ c.toNat := by omega
    have w8 : IntKind.u8.wrap ((c.toNat : Int) - 97) = ((c.toNat - 97 : Nat) : Int) := by rw [IntKind.wrap_u8]; omega
    have w6 : IntKind.u64.wrap ((c.toNat - 97 : Nat) : Int) = ((c.toNat - 97 : Nat) : Int) := IntWalk.u64_in _ (by omega)
    have w7 : IntKind.u64.wrap (((c.toNat - 97 : Nat) : Int) + 10) = ((c.toNat - 97 + 10 : Nat) : Int) := by rw [IntWalk.u64_in _ (by omega)]; omega
    obtain ⟨K, hK⟩ : ∃ K, c.toNat - 97 = K := ⟨_, rfl⟩
    rw [hK] at w8 w6 w7
    have hf := hq' (K + 10) (by rw [if_neg h, hK])
    generalize hK2 : K + 10 = K2 at *
    simp -implicitDefEqProofs (disch := first | assumption | (simp only [wnA]; done) | (simp only [wnA]; omega) | omega | fail) [rc36, ro36, wkA, retV, stabOk, dC, ev, fillD, pickCells, putAt, bnd, slD, List.getElem?_cons_zero, List.getElem?_cons_succ, dR.eq_20, Mem.cell, Mem.row, wmA, hi, w8, w6, w7, rc36_0]
    exact hf

theorem dig_sub16 : ∀ k : Fin 16, (ByteArray.mk #[48, 49, 50, 51, 52, 53, 54, 55, 56, 57, 97, 98, 99, 100, 101, 102]).extract k.val (k.val + 1) = ⟨⟨[digC k.val]⟩⟩ := by decide +kernel
theorem c_ldig {w0 : World} {B : Nat} (hB : B = 16 ∨ B = 10) : ∀ (n : Nat) {m : Mem} {Q : Value → Mem → Prop}, n < 18446744073709551616 → Q (.string ⟨⟨digs B n⟩⟩) m → AbC Tryd.prog w0 16 [.int .u64 (n : Int), .int .u64 (B : Int)] m Q := by
  intro n
  induction n using Nat.strongRecOn with
  | _ n ih =>
    intro m Q hn hq
    refine AbC_fn ok16 (by simp) ?_
    have hB0 : (B : Int) ≠ 0 := by omega
    simp -implicitDefEqProofs (disch := first | assumption | (simp only [wnA]; done) | (simp only [wnA]; omega) | omega | fail) [rc16, ro16, wkA, retV, stabOk, dC, ev, fillD, pickCells, putAt, bnd, slD, List.getElem?_cons_zero, List.getElem?_cons_succ, dR.eq_20, Mem.cell, Mem.row, wmA]
    by_cases h : n < B
    · have hi : (n : Int) < (B : Int) := by omega
      have w1 : IntKind.u64.wrap ((n : Int) + 1) = (n : Int) + 1 := IntWalk.u64_in _ (by omega)
      have hx := dig_sub16 ⟨n, by omega⟩
      simp only at hx
      have hz : (ByteArray.mk #[48, 49, 50, 51, 52, 53, 54, 55, 56, 57, 97, 98, 99, 100, 101, 102]).size = 16 := rfl
      have e1 : (0 : Int) ≤ (n : Int) + 1 ∧ (n : Int) + 1 ≤ 16 := by omega
      have e2 : (n : Int) ≤ (n : Int) + 1 := by omega
      have e3 : ((n : Int) + 1).toNat = n + 1 := by omega
      rw [digs_lt h] at hq
      simp -implicitDefEqProofs (disch := first | assumption | (simp only [wnA]; done) | (simp only [wnA]; omega) | omega | fail) [wkA, retV, stabOk, dC, ev, fillD, pickCells, putAt, bnd, slD, List.getElem?_cons_zero, List.getElem?_cons_succ, dR.eq_20, Mem.cell, Mem.row, wmA, h, hi, w1, hz, e1, e2, e3, hx]
      exact hq
    · have hi : ¬ (n : Int) < (B : Int) := by omega
      have q1 : (n : Int).tdiv (B : Int) = ((n / B : Nat) : Int) := by rw [Int.tdiv_eq_ediv_of_nonneg (by omega)]; omega
      have q2 : (n : Int).tmod (B : Int) = ((n % B : Nat) : Int) := by rw [Int.tmod_eq_emod_of_nonneg (by omega)]; omega
      have h1 : n / B < n := Nat.div_lt_self (by omega) (by omega)
      have h2 : n % B < B := Nat.mod_lt _ (by omega)
      have lh := digs_64 (b := B) (n := n) (by omega) (by omega)
      rw [digs_ge (by omega) (by omega)] at hq lh
      have i1 := @ih (n / B) h1 m
      have i2 := @ih (n % B) (by omega) m
      rw [digs_lt h2] at i2
      generalize n / B = q at *
      generalize n % B = r at *
      have w2 : IntKind.u64.wrap (q : Int) = (q : Int) := IntWalk.u64_in _ (by omega)
      simp -implicitDefEqProofs (disch := first | assumption | (simp only [wnA]; done) | (simp only [wnA]; omega) | omega | fail) [wkA, retV, stabOk, dC, ev, fillD, pickCells, putAt, bnd, slD, List.getElem?_cons_zero, List.getElem?_cons_succ, dR.eq_20, Mem.cell, Mem.row, wmA, h, hi, rc16_0, dBin_quo, dBin_rem, hB0, q1, q2, w2]
      refine i1 (by omega) ?_
      simp -implicitDefEqProofs (disch := first | assumption | (simp only [wnA]; done) | (simp only [wnA]; omega) | omega | fail) [wkA, retV, stabOk, dC, ev, fillD, pickCells, putAt, bnd, slD, List.getElem?_cons_zero, List.getElem?_cons_succ, dR.eq_20, Mem.cell, Mem.row, wmA]
      refine i2 (by omega) ?_
      simp only [List.length_append] at lh
      have hadd : dBin .add (.string ⟨⟨digs B q⟩⟩) (.string ⟨⟨[digC r]⟩⟩) = some (.string ⟨⟨digs B q ++ [digC r]⟩⟩) := cat2 (by omega)
      simp -implicitDefEqProofs (disch := first | assumption | (simp only [wnA]; done) | (simp only [wnA]; omega) | omega | fail) [wkA, retV, stabOk, dC, ev, fillD, pickCells, putAt, bnd, slD, List.getElem?_cons_zero, List.getElem?_cons_succ, dR.eq_20, Mem.cell, Mem.row, wmA, hadd]
      exact hq

/-- The law's own number: it no longer grows where it is far too large. -/
def sat (B : Nat) : Nat → List UInt8 → Nat
  | v, [] => v
  | v, c :: l => sat B (if v < 1099511627776 then v * B + hv c else v) l
theorem sat_snoc {B : Nat} (c : UInt8) : ∀ (l : List UInt8) (v : Nat), sat B v (l ++ [c]) = (if sat B v l < 1099511627776 then sat B v l * B + hv c else sat B v l)
  | [], v => rfl
  | x :: l, v => by simp only [List.cons_append, sat]; exact sat_snoc c l _
theorem hv_digC : ∀ d : Fin 16, hv (digC d.val) = d.val := by decide +kernel
theorem sat_digs {B : Nat} (hB : 2 ≤ B ∧ B ≤ 16) : ∀ n, n < 1099511627776 → sat B 0 (digs B n) = n := by
  intro n
  induction n using Nat.strongRecOn with
  | _ n ih =>
    intro hn
    by_cases h : n < B
    · rw [digs_lt h]
      simp only [sat]
      rw [if_pos (by omega), hv_digC ⟨n, by omega⟩]
      simp
    · have h1 : n / B < n := Nat.div_lt_self (by omega) (by omega)
      have h2 : n % B < B := Nat.mod_lt _ (by omega)
      have h3 : n / B * B + n % B = n := Nat.div_add_mod' n B
      rw [digs_ge (by omega) (by omega), sat_snoc, ih _ h1 (by omega), if_pos (by omega), hv_digC ⟨n % B, by omega⟩, h3]
theorem numV_sat (l : List UInt8) : numV l = if sat (nB l) 0 (nDs l) < 4294967296 ∧ digs (nB l) (sat (nB l) 0 (nDs l)) = nDs l ∧ wordN false (l.drop (nN l)) = 0 then some (sat (nB l) 0 (nDs l)) else none := by
  have hB := nB_or l
  split
  · rename_i h
    obtain ⟨h1, h2, h3⟩ := h
    unfold numV
    have hp := puL_digs (B := nB l) (M := 4294967295) (by omega) (sat (nB l) 0 (nDs l)) (by omega)
    rw [h2] at hp
    rw [hp]
    simp [h2, h3]
  · rename_i h
    unfold numV
    split
    · rename_i v hv'
      split
      · rename_i h2
        exfalso
        have hvM := puL_le _ 0 v (by omega) hv'
        have hsat := sat_digs (B := nB l) (by omega) v (by omega)
        rw [h2.1] at hsat
        exact h ⟨by omega, by rw [hsat]; exact h2.1, h2.2⟩
      · rfl
    · rfl
end Go.Proofs.YtilknkpaghihhaaDoor.Ab
/- The law's own tokens: one token. -/
set_option linter.unusedVariables false
set_option linter.unusedSimpArgs false
namespace Go.Proofs.YtilknkpaghihhaaDoor.Ab
open Go Go.RowKit
set_option maxHeartbeats 1000000
set_option maxRecDepth 100000

def wdS : ByteArray := ⟨#[97, 98, 99, 100, 101, 102, 103, 104, 105, 106, 107, 108, 109, 110, 111, 112, 113, 114, 115, 116, 117, 118, 119, 120, 121, 122, 48, 49, 50, 51, 52, 53, 54, 55, 56, 57, 45]⟩
theorem wd_in (c : UInt8) : wdS.data.toList.contains c = wq true c :=
  beq_iff_eq.1 (allB (p := fun c => wdS.data.toList.contains c == wq true c) (by decide +kernel) c)
theorem sg_con (c : UInt8) : (ByteArray.mk #[58, 59, 44, 123, 125]).data.toList.contains c = isSg c :=
  beq_iff_eq.1 (allB (p := fun c => (ByteArray.mk #[58, 59, 44, 123, 125]).data.toList.contains c == isSg c) (by decide +kernel) c)
theorem con10 (c : UInt8) : (sgS 10).data.toList.contains c = inB 10 c :=
  beq_iff_eq.1 (allB (p := fun c => (sgS 10).data.toList.contains c == inB 10 c) (by decide +kernel) c)
theorem con16 (c : UInt8) : (sgS 16).data.toList.contains c = inB 16 c :=
  beq_iff_eq.1 (allB (p := fun c => (sgS 16).data.toList.contains c == inB 16 c) (by decide +kernel) c)
theorem con_in {B : Nat} (h : B = 10 ∨ B = 16) (c : UInt8) : (sgS B).data.toList.contains c = inB B c := by
  rcases h with rfl | rfl
  · exact con10 c
  · exact con16 c
theorem in16 {B : Nat} (h : B = 10 ∨ B = 16) {c : UInt8} (hc : inB B c = true) : inB 16 c = true := by
  rcases h with rfl | rfl
  · simp [inB] at hc ⊢; exact .inl hc
  · exact hc
theorem esc_con (c : UInt8) : (ByteArray.mk #[34, 92, 114, 110]).data.toList.contains c = (escD c).isSome :=
  beq_iff_eq.1 (allB (p := fun c => (ByteArray.mk #[34, 92, 114, 110]).data.toList.contains c == (escD c).isSome) (by decide +kernel) c)
theorem sg_no {c : UInt8} (h : isSg c = true) : isLet c = false ∧ isDig c = false ∧ c.toNat ≠ 34 := by
  simp only [isSg, Bool.or_eq_true, beq_iff_eq] at h
  simp only [isLet, isDig, Bool.and_eq_false_iff, decide_eq_false_iff_not]
  omega
theorem wordN_let {c : UInt8} {r : List UInt8} (h : isLet c = true) : wordN false (c :: r) = 1 + wordN true r := by
  simp [wordN, wq, h]; omega
theorem wordN_zero {l : List UInt8} : wordN false l = 0 ↔ ∀ c r, l = c :: r → isLet c = false := by
  cases l with
  | nil => simp [wordN]
  | cons c r =>
    constructor
    · intro h c' r' e
      simp only [List.cons.injEq] at e
      obtain ⟨rfl, rfl⟩ := e
      cases hl : isLet c with
      | false => rfl
      | true => rw [wordN_let hl] at h; omega
    · intro h
      have := h c r rfl
      simp [wordN, wq, this]

theorem w_lword {w0 : World} {Q : AQ} {ts : Fr} {m : Mem} {S : ByteArray} {c : UInt8} {r : List UInt8} (hs : S.size ≤ 1000000) (hS : S.data.toList = c :: r) (hc : isLet c = true) (t0 : ts 0 = .string S) (t4 : ts 4 = .int .i64 1)
    (hq : ∀ ts', ts' 0 = ts 0 → ts' 2 = ts 2 → ts' 4 = .int .i64 (wordN false S.data.toList : Nat) → Q (.exit 1) ts' m) : LoopW (AbW Tryd.prog w0 rc24_1) Q ts m := by
  have hl : S.data.toList.length = S.size := by simp
  have hsz : 1 ≤ S.size := by rw [← hl, hS]; simp
  refine LoopW_of (fun k ts' m' => ∃ j, j + k = S.size ∧ m' = m ∧ ts' 0 = ts 0 ∧ ts' 2 = ts 2 ∧ ts' 4 = .int .i64 (j : Nat) ∧ wordN false S.data.toList = j + wordN true (S.data.toList.drop j)) (S.size - 1) ?_ ?_
  · exact ⟨1, by omega, rfl, rfl, rfl, t4, by rw [hS, wordN_let hc]; rfl⟩
  · rintro k ts2 m2 K ⟨j, hj, rfl, s0, s2, s4, hn⟩ hK
    rw [t0] at s0
    simp -implicitDefEqProofs (disch := first | assumption | (simp only [wnA]; done) | (simp only [wnA]; omega) | omega | fail) [rc24_1, wkA, retV, stabOk, dC, ev, fillD, pickCells, putAt, bnd, slD, List.getElem?_cons_zero, List.getElem?_cons_succ, dR.eq_20, Mem.cell, Mem.row, wmA, s0, s4]
    rcases hd : S.data.toList.drop j with _ | ⟨x, r'⟩
    · have hjj := drop_nil hd (by omega)
      have hlt : ¬ j < S.size := by omega
      rw [hd] at hn
      simp -implicitDefEqProofs (disch := first | assumption | (simp only [wnA]; done) | (simp only [wnA]; omega) | omega | fail) [wkA, retV, stabOk, dC, ev, fillD, pickCells, putAt, bnd, slD, List.getElem?_cons_zero, List.getElem?_cons_succ, dR.eq_20, Mem.cell, Mem.row, wmA, s0, s4, hlt]
      exact hq _ (by simp [s0, t0]) (by simp [s2]) (by simp [s4, hn, wordN])
    · obtain ⟨hlt, g1, hr⟩ := at_S hd
      have w1 : IntKind.i64.wrap ((j : Int) + 1) = (j : Int) + 1 := w64 (by omega)
      rw [hd] at hn
      simp -implicitDefEqProofs (disch := first | assumption | (simp only [wnA]; done) | (simp only [wnA]; omega) | omega | fail) [wkA, retV, stabOk, dC, ev, fillD, pickCells, putAt, bnd, slD, List.getElem?_cons_zero, List.getElem?_cons_succ, dR.eq_20, Mem.cell, Mem.row, wmA, s0, s4, hlt, g1, getOf g1]
      refine c_in (S := wdS) (by decide) ?_
      rw [wd_in]
      cases hw : wq true x with
      | true =>
        simp -implicitDefEqProofs (disch := first | assumption | (simp only [wnA]; done) | (simp only [wnA]; omega) | omega | fail) [wkA, retV, stabOk, dC, ev, fillD, pickCells, putAt, bnd, slD, List.getElem?_cons_zero, List.getElem?_cons_succ, dR.eq_20, Mem.cell, Mem.row, wmA, s4, rc24_0, w1]
        exact hK (k - 1) _ m2 (by omega) ⟨j + 1, by omega, rfl, by simp [s0, t0], by simp [s2], by simp, by rw [hn, hr]; simp only [wordN, hw, if_true]; omega⟩
      | false =>
        simp -implicitDefEqProofs (disch := first | assumption | (simp only [wnA]; done) | (simp only [wnA]; omega) | omega | fail) [wkA, retV, stabOk, dC, ev, fillD, pickCells, putAt, bnd, slD, List.getElem?_cons_zero, List.getElem?_cons_succ, dR.eq_20, Mem.cell, Mem.row, wmA, s4]
        exact hq _ (by simp [s0, t0]) (by simp [s2]) (by rw [hn]; simp [s4, wordN, hw])

theorem sat_lt {B : Nat} (hB : B ≤ 16) : ∀ (l : List UInt8) (v : Nat), v < 35184372088832 → sat B v l < 35184372088832
  | [], v, h => h
  | c :: l, v, h => by
    simp only [sat]
    apply sat_lt hB l
    split
    · have h1 : v * B ≤ 1099511627775 * 16 := Nat.mul_le_mul (by omega) hB
      have h2 : hv c ≤ 255 := by unfold hv; have := c.toNat_lt; split <;> omega
      omega
    · exact h
theorem take_snoc {l r : List UInt8} {c : UInt8} {j f : Nat} (hf : f ≤ j) (h : l.drop j = c :: r) : (l.take (j + 1)).drop f = (l.take j).drop f ++ [c] := by
  have hlt : j < l.length := by
    rcases Nat.lt_or_ge j l.length with h' | h'
    · exact h'
    · rw [List.drop_eq_nil_of_le h'] at h; cases h
  have e := List.drop_eq_getElem_cons hlt
  rw [h] at e
  simp only [List.cons.injEq] at e
  rw [List.take_succ_eq_append_getElem hlt, ← e.1, List.drop_append_of_le_length (by rw [List.length_take]; omega)]
end Go.Proofs.YtilknkpaghihhaaDoor.Ab
/- The law's own tokens: numbers. -/
set_option linter.unusedVariables false
set_option linter.unusedSimpArgs false
namespace Go.Proofs.YtilknkpaghihhaaDoor.Ab
open Go Go.RowKit
set_option maxHeartbeats 1000000
set_option maxRecDepth 100000

def LNs (S : ByteArray) (i2 : Nat) (ts : Fr) : Prop := ts 0 = .string S ∧ ts 2 = .pointer (some ⟨i2, 0, none⟩) ∧ ts 6 = .int .u64 (nB S.data.toList : Nat) ∧ ts 8 = .int .i64 (nF S.data.toList : Nat)

/-- Behind the signs of a number. -/
theorem w_lnum6 {w0 : World} {m : Mem} {ts : Fr} {S : ByteArray} {Q : AQ} {i2 : Nat} {cs : List Value} (hs : S.size ≤ 1000000) (g2 : m.get i2 = .own cs 32) (hcs : cs.length = 4)
    (hl : LNs S i2 ts) (t9 : ts 9 = .int .i64 (nN S.data.toList : Nat)) (t10 : ts 10 = .int .u64 (sat (nB S.data.toList) 0 (nDs S.data.toList) : Nat))
    (h0 : ∀ (ts' : Fr) V, ts' 2 = .pointer (some ⟨i2, 0, none⟩) → ts' 3 = .int .i64 0 → V = Tk.cells ⟨0, [], 0⟩ 0 → numV S.data.toList = none → Q .ret ts' (m.set i2 (.own V 32)))
    (h1 : ∀ (ts' : Fr) V v, ts' 2 = .pointer (some ⟨i2, 0, none⟩) → ts' 3 = .int .i64 (nN S.data.toList : Nat) → V = Tk.cells ⟨2, S.data.toList.take (nN S.data.toList), (v : Nat)⟩ 0 → numV S.data.toList = some v → Q .ret ts' (m.set i2 (.own V 32))) :
    AbW Tryd.prog w0 rc24_6 Q ts m := by
  obtain ⟨t0, t2, t6, t8⟩ := hl
  have hB := nB_or S.data.toList
  have hlen : S.data.toList.length = S.size := by simp
  have hnl := nN_le S.data.toList
  have hfn : nF S.data.toList ≤ nN S.data.toList := by unfold nN; omega
  have hx : S.extract (nF S.data.toList) (nN S.data.toList) = ⟨⟨nDs S.data.toList⟩⟩ := by
    rw [Lib.extract_eq]
    unfold nDs
    rw [List.drop_take]
  have hx0 : S.extract 0 (nN S.data.toList) = ⟨⟨S.data.toList.take (nN S.data.toList)⟩⟩ := ext0
  have hns := numV_sat S.data.toList
  have hsl := sat_lt (B := nB S.data.toList) (by omega) (nDs S.data.toList) 0 (by omega)
  have hz : ∀ {P : Prop}, (S.data.toList.drop (nN S.data.toList) = [] → P) → (∀ c r, S.data.toList.drop (nN S.data.toList) = c :: r → P) → P := fun a b => by
    rcases h : S.data.toList.drop (nN S.data.toList) with _ | ⟨c, r⟩
    · exact a h
    · exact b c r h
  have hw := wordN_zero (l := S.data.toList.drop (nN S.data.toList))
  have hatS := @at_S S (nN S.data.toList)
  have hdn := fun h => @drop_nil S (nN S.data.toList) h (by omega)
  generalize sat (nB S.data.toList) 0 (nDs S.data.toList) = v at *
  generalize S.data.toList.take (nN S.data.toList) = TX at *
  generalize nDs S.data.toList = D at *
  generalize nN S.data.toList = N at *
  generalize nF S.data.toList = F at *
  generalize nB S.data.toList = B at *
  generalize S.data.toList.drop N = W at *
  have st : ∀ {ts' : Fr} {V : List Value} {R : Value → Mem → Prop} {x : Operand}, ts' 2 = .pointer (some ⟨i2, 0, none⟩) → ev ts' x = .agg ⟨V⟩ → V.length = 4 → V.all oneC = true → R undef (m.set i2 (.own V 32)) → SK Tryd.prog w0 (.e (.st 4 (.tmp 2) x)) ts' m R := fun {ts' V R x} e2 ex el eo hR => by
    refine SK_st (i := i2) (o := 0) (by simp [wkA, retV, stabOk, dC, ev, fillD, pickCells, putAt, bnd, slD, List.getElem?_cons_zero, List.getElem?_cons_succ, dR.eq_20, e2]) (e := 32) g2 (by omega) (by rw [ex]; exact el) (by rw [ex]; exact eo) ?_
    have : putAt cs 0 (cellsV (ev ts' x)) = V := by
      rw [ex]
      show List.take 0 cs ++ V ++ List.drop (0 + V.length) cs = V
      rw [el, List.drop_eq_nil_of_le (by omega)]; simp
    rw [this]; exact hR
  have ok : v < 4294967296 → digs B v = D → (∀ c r, W = c :: r → isLet c = false) → ∀ (ts' : Fr), ts' 0 = .string S → ts' 2 = .pointer (some ⟨i2, 0, none⟩) → ts' 9 = .int .i64 (N : Nat) → ts' 10 = .int .u64 (v : Nat) → AbW Tryd.prog w0 rc24_5 Q ts' m := fun hv1 hv2 hv3 ts' e0 e2 e9 e10 => by
    have wv : IntKind.i64.wrap (v : Int) = (v : Int) := w64 (by omega)
    have c2 : N ≤ S.size := by omega
    have c3 : (N : Int) ≤ (S.size : Int) := by omega
    simp -implicitDefEqProofs (disch := first | assumption | (simp only [wnA]; done) | (simp only [wnA]; omega) | omega | fail) [rc24_5, wkA, retV, stabOk, dC, ev, fillD, pickCells, putAt, bnd, slD, List.getElem?_cons_zero, List.getElem?_cons_succ, dR.eq_20, Mem.cell, Mem.row, wmA, e0, e9, e10, wv, c2, c3, hx0]
    refine st (V := Tk.cells ⟨2, TX, v⟩ 0) (by simp [e2]) (by simp [wkA, retV, stabOk, dC, ev, fillD, pickCells, putAt, bnd, slD, List.getElem?_cons_zero, List.getElem?_cons_succ, dR.eq_20, Tk.cells]) rfl rfl ?_
    simp -implicitDefEqProofs (disch := first | assumption | (simp only [wnA]; done) | (simp only [wnA]; omega) | omega | fail) [wkA, retV, stabOk, dC, ev, fillD, pickCells, putAt, bnd, slD, List.getElem?_cons_zero, List.getElem?_cons_succ, dR.eq_20, Mem.cell, Mem.row, wmA]
    exact h1 _ _ v (by simp [e2]) (by simp) rfl (by rw [hns, if_pos ⟨hv1, hv2, hw.2 hv3⟩])
  have c1 : (F : Int) ≤ (N : Int) := by omega
  have c2 : N ≤ S.size := by omega
  have c3 : (N : Int) ≤ (S.size : Int) := by omega
  by_cases hv : v < 4294967296
  · have iv : ¬ (4294967296 : Int) ≤ (v : Int) := by omega
    simp -implicitDefEqProofs (disch := first | assumption | (simp only [wnA]; done) | (simp only [wnA]; omega) | omega | fail) [rc24_6, wkA, retV, stabOk, dC, ev, fillD, pickCells, putAt, bnd, slD, List.getElem?_cons_zero, List.getElem?_cons_succ, dR.eq_20, Mem.cell, Mem.row, wmA, t0, t6, t8, t9, t10, c1, c2, c3, hfn, iv, hx]
    refine c_ldig (by omega) v (by omega) ?_
    by_cases hd : digs B v = D
    · refine hz (fun hW => ?_) fun c r hW => ?_
      · have hN := hdn hW
        have hnl : ¬ N < S.size := by omega
        simp -implicitDefEqProofs (disch := first | assumption | (simp only [wnA]; done) | (simp only [wnA]; omega) | omega | fail) [wkA, retV, stabOk, dC, ev, fillD, pickCells, putAt, bnd, slD, List.getElem?_cons_zero, List.getElem?_cons_succ, dR.eq_20, Mem.cell, Mem.row, wmA, t0, t9, hd, hnl]
        exact ok hv hd (fun c r e => by rw [hW] at e; cases e) _ (by simp [t0]) (by simp [t2]) (by simp [t9]) (by simp [t10])
      · obtain ⟨hlt, g1, -⟩ := hatS hW
        cases hle : isLet c with
        | true =>
          have h97 : (97 : Int) ≤ (c.toNat : Int) ∧ (c.toNat : Int) ≤ 122 := by
            simp only [isLet, Bool.and_eq_true, decide_eq_true_eq] at hle
            omega
          simp -implicitDefEqProofs (disch := first | assumption | (simp only [wnA]; done) | (simp only [wnA]; omega) | omega | fail) [wkA, retV, stabOk, dC, ev, fillD, pickCells, putAt, bnd, slD, List.getElem?_cons_zero, List.getElem?_cons_succ, dR.eq_20, Mem.cell, Mem.row, wmA, t0, t9, hd, hlt, g1, getOf g1, h97]
          refine st (V := Tk.cells ⟨0, [], 0⟩ 0) (by simp [t2]) (by simp [wkA, retV, stabOk, dC, ev, fillD, pickCells, putAt, bnd, slD, List.getElem?_cons_zero, List.getElem?_cons_succ, dR.eq_20, Tk.cells]) rfl rfl ?_
          simp -implicitDefEqProofs (disch := first | assumption | (simp only [wnA]; done) | (simp only [wnA]; omega) | omega | fail) [wkA, retV, stabOk, dC, ev, fillD, pickCells, putAt, bnd, slD, List.getElem?_cons_zero, List.getElem?_cons_succ, dR.eq_20, Mem.cell, Mem.row, wmA]
          exact h0 _ _ (by simp [t2]) (by simp) rfl (by rw [hns, if_neg (fun h => by have := hw.1 h.2.2 c r hW; rw [hle] at this; cases this)])
        | false =>
          have hok := ok hv hd (fun c' r' e => by rw [hW] at e; simp only [List.cons.injEq] at e; rw [← e.1]; exact hle)
          by_cases h97 : 97 ≤ c.toNat
          · have i97 : (97 : Int) ≤ (c.toNat : Int) := by omega
            have i122 : ¬ (c.toNat : Int) ≤ 122 := by
              simp only [isLet, Bool.and_eq_false_iff, decide_eq_false_iff_not] at hle
              omega
            simp -implicitDefEqProofs (disch := first | assumption | (simp only [wnA]; done) | (simp only [wnA]; omega) | omega | fail) [wkA, retV, stabOk, dC, ev, fillD, pickCells, putAt, bnd, slD, List.getElem?_cons_zero, List.getElem?_cons_succ, dR.eq_20, Mem.cell, Mem.row, wmA, t0, t9, hd, hlt, g1, getOf g1, i97, i122]
            exact hok _ (by simp [t0]) (by simp [t2]) (by simp [t9]) (by simp [t10])
          · have i97 : ¬ (97 : Int) ≤ (c.toNat : Int) := by omega
            simp -implicitDefEqProofs (disch := first | assumption | (simp only [wnA]; done) | (simp only [wnA]; omega) | omega | fail) [wkA, retV, stabOk, dC, ev, fillD, pickCells, putAt, bnd, slD, List.getElem?_cons_zero, List.getElem?_cons_succ, dR.eq_20, Mem.cell, Mem.row, wmA, t0, t9, hd, hlt, g1, getOf g1, i97]
            exact hok _ (by simp [t0]) (by simp [t2]) (by simp [t9]) (by simp [t10])
    · have hd' : (digs B v == D) = false := by simpa using hd
      simp -implicitDefEqProofs (disch := first | assumption | (simp only [wnA]; done) | (simp only [wnA]; omega) | omega | fail) [wkA, retV, stabOk, dC, ev, fillD, pickCells, putAt, bnd, slD, List.getElem?_cons_zero, List.getElem?_cons_succ, dR.eq_20, Mem.cell, Mem.row, wmA, hd, hd']
      refine st (V := Tk.cells ⟨0, [], 0⟩ 0) (by simp [t2]) (by simp [wkA, retV, stabOk, dC, ev, fillD, pickCells, putAt, bnd, slD, List.getElem?_cons_zero, List.getElem?_cons_succ, dR.eq_20, Tk.cells]) rfl rfl ?_
      simp -implicitDefEqProofs (disch := first | assumption | (simp only [wnA]; done) | (simp only [wnA]; omega) | omega | fail) [wkA, retV, stabOk, dC, ev, fillD, pickCells, putAt, bnd, slD, List.getElem?_cons_zero, List.getElem?_cons_succ, dR.eq_20, Mem.cell, Mem.row, wmA]
      exact h0 _ _ (by simp [t2]) (by simp) rfl (by rw [hns, if_neg (fun h => hd h.2.1)])
  · have iv : (4294967296 : Int) ≤ (v : Int) := by omega
    simp -implicitDefEqProofs (disch := first | assumption | (simp only [wnA]; done) | (simp only [wnA]; omega) | omega | fail) [rc24_6, wkA, retV, stabOk, dC, ev, fillD, pickCells, putAt, bnd, slD, List.getElem?_cons_zero, List.getElem?_cons_succ, dR.eq_20, Mem.cell, Mem.row, wmA, t0, t6, t8, t9, t10, c1, c2, c3, hfn, iv, hx]
    refine st (V := Tk.cells ⟨0, [], 0⟩ 0) (by simp [t2]) (by simp [wkA, retV, stabOk, dC, ev, fillD, pickCells, putAt, bnd, slD, List.getElem?_cons_zero, List.getElem?_cons_succ, dR.eq_20, Tk.cells]) rfl rfl ?_
    simp -implicitDefEqProofs (disch := first | assumption | (simp only [wnA]; done) | (simp only [wnA]; omega) | omega | fail) [wkA, retV, stabOk, dC, ev, fillD, pickCells, putAt, bnd, slD, List.getElem?_cons_zero, List.getElem?_cons_succ, dR.eq_20, Mem.cell, Mem.row, wmA]
    exact h0 _ _ (by simp [t2]) (by simp) rfl (by rw [hns, if_neg (fun h => hv h.1)])
theorem w_lnum {w0 : World} {m : Mem} {ts : Fr} {S : ByteArray} {Q : AQ} {i2 : Nat} {cs : List Value} (hs : S.size ≤ 1000000) (g2 : m.get i2 = .own cs 32) (hcs : cs.length = 4)
    (hl : LNs S i2 ts) (t7 : ts 7 = .string (sgS (nB S.data.toList)))
    (h0 : ∀ (ts' : Fr) V, ts' 2 = .pointer (some ⟨i2, 0, none⟩) → ts' 3 = .int .i64 0 → V = Tk.cells ⟨0, [], 0⟩ 0 → numV S.data.toList = none → Q .ret ts' (m.set i2 (.own V 32)))
    (h1 : ∀ (ts' : Fr) V v, ts' 2 = .pointer (some ⟨i2, 0, none⟩) → ts' 3 = .int .i64 (nN S.data.toList : Nat) → V = Tk.cells ⟨2, S.data.toList.take (nN S.data.toList), (v : Nat)⟩ 0 → numV S.data.toList = some v → Q .ret ts' (m.set i2 (.own V 32))) :
    AbW Tryd.prog w0 rc24_7 Q ts m := by
  obtain ⟨t0, t2, t6, t8⟩ := hl
  have hB := nB_or S.data.toList
  have hlen : S.data.toList.length = S.size := by simp
  have hfl := nF_le S.data.toList
  have hnl := nN_le S.data.toList
  simp -implicitDefEqProofs (disch := first | assumption | (simp only [wnA]; done) | (simp only [wnA]; omega) | omega | fail) [rc24_7, wkA, retV, stabOk, dC, ev, fillD, pickCells, putAt, bnd, slD, List.getElem?_cons_zero, List.getElem?_cons_succ, dR.eq_20, Mem.cell, Mem.row, wmA, t8]
  refine LoopW_of (fun k ts' m' => ∃ j, j + k = S.size ∧ m' = m ∧ nF S.data.toList ≤ j ∧ LNs S i2 ts' ∧ ts' 7 = .string (sgS (nB S.data.toList)) ∧ ts' 9 = .int .i64 (j : Nat) ∧ ts' 10 = .int .u64 (sat (nB S.data.toList) 0 ((S.data.toList.take j).drop (nF S.data.toList)) : Nat) ∧
    nN S.data.toList = j + runN (inB (nB S.data.toList)) (S.data.toList.drop j)) (S.size - nF S.data.toList) ?_ ?_
  · refine ⟨nF S.data.toList, by omega, rfl, Nat.le_refl _, ⟨by simp [t0], by simp [t2], by simp [t6], by simp [t8]⟩, by simp [t7], by simp, ?_, rfl⟩
    have : (S.data.toList.take (nF S.data.toList)).drop (nF S.data.toList) = [] := List.drop_eq_nil_of_le (by rw [List.length_take]; omega)
    rw [this]; simp [sat]
  · rintro k ts2 m2 K ⟨j, hj, rfl, hfj, ⟨s0, s2, s6, s8⟩, s7, s9, s10, hn⟩ hK
    have hsl := sat_lt (B := nB S.data.toList) (by omega) ((S.data.toList.take j).drop (nF S.data.toList)) 0 (by omega)
    have fin : runN (inB (nB S.data.toList)) (S.data.toList.drop j) = 0 → ∀ ts3 : Fr, LNs S i2 ts3 → ts3 9 = ts2 9 → ts3 10 = ts2 10 → AbW Tryd.prog w0 rc24_6 Q ts3 m2 := fun hz ts3 hL e9 e10 => by
      have hnj : nN S.data.toList = j := by omega
      refine w_lnum6 hs g2 hcs hL (by rw [e9, s9, hnj]) ?_ h0 h1
      rw [e10, s10]
      unfold nDs
      rw [hnj]
    simp -implicitDefEqProofs (disch := first | assumption | (simp only [wnA]; done) | (simp only [wnA]; omega) | omega | fail) [rc24_4, wkA, retV, stabOk, dC, ev, fillD, pickCells, putAt, bnd, slD, List.getElem?_cons_zero, List.getElem?_cons_succ, dR.eq_20, Mem.cell, Mem.row, wmA, s0, s9]
    rcases hd : S.data.toList.drop j with _ | ⟨c, r⟩
    · have hjj := drop_nil hd (by omega)
      have hlt : ¬ j < S.size := by omega
      simp -implicitDefEqProofs (disch := first | assumption | (simp only [wnA]; done) | (simp only [wnA]; omega) | omega | fail) [wkA, retV, stabOk, dC, ev, fillD, pickCells, putAt, bnd, slD, List.getElem?_cons_zero, List.getElem?_cons_succ, dR.eq_20, Mem.cell, Mem.row, wmA, s0, s9, hlt]
      exact fin (by rw [hd]; rfl) _ ⟨by simp [s0], by simp [s2], by simp [s6], by simp [s8]⟩ (by simp) (by simp)
    · obtain ⟨hlt, g1, hr⟩ := at_S hd
      have w1 : IntKind.i64.wrap ((j : Int) + 1) = (j : Int) + 1 := w64 (by omega)
      have hsn := take_snoc (f := nF S.data.toList) hfj hd
      rw [hd] at hn
      simp -implicitDefEqProofs (disch := first | assumption | (simp only [wnA]; done) | (simp only [wnA]; omega) | omega | fail) [wkA, retV, stabOk, dC, ev, fillD, pickCells, putAt, bnd, slD, List.getElem?_cons_zero, List.getElem?_cons_succ, dR.eq_20, Mem.cell, Mem.row, wmA, s0, s7, s9, hlt, g1, getOf g1]
      refine c_in (S := sgS (nB S.data.toList)) (by rcases hB with h | h <;> rw [h] <;> decide) ?_
      rw [con_in hB]
      cases hc : inB (nB S.data.toList) c with
      | true =>
        have hnext : nN S.data.toList = j + 1 + runN (inB (nB S.data.toList)) (S.data.toList.drop (j + 1)) := by rw [hn, hr]; simp only [runN, hc, if_true]; omega
        have hstep : sat (nB S.data.toList) 0 ((S.data.toList.take (j + 1)).drop (nF S.data.toList)) = (if sat (nB S.data.toList) 0 ((S.data.toList.take j).drop (nF S.data.toList)) < 1099511627776 then sat (nB S.data.toList) 0 ((S.data.toList.take j).drop (nF S.data.toList)) * nB S.data.toList + hv c else sat (nB S.data.toList) 0 ((S.data.toList.take j).drop (nF S.data.toList))) := by rw [hsn, sat_snoc]
        obtain ⟨V, hV⟩ : ∃ V, sat (nB S.data.toList) 0 ((S.data.toList.take j).drop (nF S.data.toList)) = V := ⟨_, rfl⟩
        rw [hV] at s10 hsl hstep
        have next : ∀ ts3 : Fr, LNs S i2 ts3 → ts3 7 = ts2 7 → ts3 9 = .int .i64 ((j : Int) + 1) → ts3 10 = .int .u64 (sat (nB S.data.toList) 0 ((S.data.toList.take (j + 1)).drop (nF S.data.toList)) : Nat) → K ts3 m2 := fun ts3 hL e7 e9 e10 =>
          hK (k - 1) ts3 m2 (by omega) ⟨j + 1, by omega, rfl, by omega, hL, by rw [e7, s7], e9, e10, hnext⟩
        by_cases hv1 : V < 1099511627776
        · have iv : (V : Int) < 1099511627776 := by omega
          rw [if_pos hv1] at hstep
          rw [hstep] at next
          have hmul : V * nB S.data.toList ≤ 1099511627775 * 16 := Nat.mul_le_mul (by omega) (by omega)
          have hhv : hv c ≤ 255 := by unfold hv; have := c.toNat_lt; split <;> omega
          have e1 : (V : Int) * ((nB S.data.toList : Nat) : Int) = ((V * nB S.data.toList : Nat) : Int) := by rw [Int.natCast_mul]
          have w2 : IntKind.u64.wrap ((V : Int) * ((nB S.data.toList : Nat) : Int)) = ((V * nB S.data.toList : Nat) : Int) := by rw [e1]; exact IntWalk.u64_in _ (by omega)
          generalize V * nB S.data.toList = Z at *
          have w3 : IntKind.u64.wrap ((Z : Int) + (hv c : Int)) = ((Z + hv c : Nat) : Int) := by rw [IntWalk.u64_in _ (by omega)]; omega
          simp -implicitDefEqProofs (disch := first | assumption | (simp only [wnA]; done) | (simp only [wnA]; omega) | omega | fail) [wkA, retV, stabOk, dC, ev, fillD, pickCells, putAt, bnd, slD, List.getElem?_cons_zero, List.getElem?_cons_succ, dR.eq_20, Mem.cell, Mem.row, wmA, rc24_3, s0, s6, s9, s10, iv, w2, hlt, g1, getOf g1]
          refine c_value (in16 hB hc) ?_
          simp -implicitDefEqProofs (disch := first | assumption | (simp only [wnA]; done) | (simp only [wnA]; omega) | omega | fail) [wkA, retV, stabOk, dC, ev, fillD, pickCells, putAt, bnd, slD, List.getElem?_cons_zero, List.getElem?_cons_succ, dR.eq_20, Mem.cell, Mem.row, wmA, w3, s9, w1]
          exact next _ ⟨by simp [s0], by simp [s2], by simp [s6], by simp [s8]⟩ (by simp) (by simp) (by simp)
        · have iv : ¬ (V : Int) < 1099511627776 := by omega
          rw [if_neg hv1] at hstep
          rw [hstep] at next
          simp -implicitDefEqProofs (disch := first | assumption | (simp only [wnA]; done) | (simp only [wnA]; omega) | omega | fail) [wkA, retV, stabOk, dC, ev, fillD, pickCells, putAt, bnd, slD, List.getElem?_cons_zero, List.getElem?_cons_succ, dR.eq_20, Mem.cell, Mem.row, wmA, rc24_3, s9, s10, iv, w1]
          exact next _ ⟨by simp [s0], by simp [s2], by simp [s6], by simp [s8]⟩ (by simp) (by simp) (by simp [s10])
      | false =>
        simp -implicitDefEqProofs (disch := first | assumption | (simp only [wnA]; done) | (simp only [wnA]; omega) | omega | fail) [wkA, retV, stabOk, dC, ev, fillD, pickCells, putAt, bnd, slD, List.getElem?_cons_zero, List.getElem?_cons_succ, dR.eq_20, Mem.cell, Mem.row, wmA]
        exact fin (by rw [hd]; simp [runN, hc]) _ ⟨by simp [s0], by simp [s2], by simp [s6], by simp [s8]⟩ (by simp) (by simp)
end Go.Proofs.YtilknkpaghihhaaDoor.Ab
/- The law's own tokens: texts in quotes, and one token. -/
set_option linter.unusedVariables false
set_option linter.unusedSimpArgs false
namespace Go.Proofs.YtilknkpaghihhaaDoor.Ab
open Go Go.RowKit
set_option maxHeartbeats 1000000
set_option maxRecDepth 100000

theorem SK_mkm {P : Program} {w0 : World} {ts : Fr} {m : Mem} {R : Value → Mem → Prop} : SK P w0 (.e .mkm) ts m R = R (.map (some m.next)) (m.push (.map [] 0)) := rfl
theorem SK_mup {P : Program} {w0 : World} {ts : Fr} {b m : Mem} {R : Value → Mem → Prop} {str : Bool} {x k v : Operand} {r clk : Nat} {es : List MapEntry} (ho : Old b m) (hr : b.next ≤ r) (hx : ev ts x = .map (some r)) (hm : m.get r = .map es clk) (hf : mapFind str (ev ts k) es 0 = some none)
    (hR : ∀ m', Old b m' → m'.get r = .map (es ++ [⟨ev ts k, ev ts v, clk⟩]) (clk + 1) → R undef m') : SK P w0 (.e (.mup str x k v)) ts m R := by
  simp only [SK, dE, hx, hm, hf]
  exact hR _ (ho.set hr _) (by simp)
def E4 : List MapEntry := [⟨.string ⟨#[114]⟩, .string ⟨#[13]⟩, 0⟩, ⟨.string ⟨#[110]⟩, .string ⟨#[10]⟩, 1⟩, ⟨.string ⟨#[34]⟩, .string ⟨#[34]⟩, 2⟩, ⟨.string ⟨#[92]⟩, .string ⟨#[92]⟩, 3⟩]
theorem esc4 {e x : UInt8} (h : escD e = some x) : ∃ k, mapFind true (.string ⟨⟨[e]⟩⟩) E4 0 = some (some (k, .string ⟨⟨[x]⟩⟩)) := by
  unfold escD at h
  split at h
  · rename_i hc
    have : e = 92 := UInt8.toNat_inj.1 hc
    subst this; simp at h; subst h
    exact ⟨3, rfl⟩
  · split at h
    · rename_i hc
      have : e = 34 := UInt8.toNat_inj.1 hc
      subst this; simp at h; subst h
      exact ⟨2, rfl⟩
    · split at h
      · rename_i hc
        have : e = 114 := UInt8.toNat_inj.1 hc
        subst this; simp at h; subst h
        exact ⟨0, rfl⟩
      · split at h
        · rename_i hc
          have : e = 110 := UInt8.toNat_inj.1 hc
          subst this; simp at h; subst h
          exact ⟨1, rfl⟩
        · cases h
theorem ext1 {S : ByteArray} {j : Nat} {c : UInt8} {r : List UInt8} (h : S.data.toList.drop j = c :: r) : S.extract j (j + 1) = ⟨⟨[c]⟩⟩ := by
  rw [Lib.extract_eq, h, show j + 1 - j = 1 from by omega]; rfl

theorem w_lquo {w0 : World} {Q : AQ} {ts : Fr} {b m : Mem} {S : ByteArray} {i2 : Nat} {cs : List Value} (hs1 : 1 ≤ S.size) (hs : S.size ≤ 1000000) (ho : Old b m) (hi : b.next ≤ i2) (hi2 : i2 < m.next) (g2 : m.get i2 = .own cs 32) (hcs : cs.length = 4)
    (t0 : ts 0 = .string S) (t2 : ts 2 = .pointer (some ⟨i2, 0, none⟩)) (t11 : ts 11 = .string ⟨⟨[]⟩⟩) (t12 : ts 12 = .int .i64 1)
    (h0 : ∀ (ts' : Fr) m', Old b m' → ts' 2 = .pointer (some ⟨i2, 0, none⟩) → ts' 3 = .int .i64 0 → m'.get i2 = .own (Tk.cells ⟨0, [], 0⟩ 0) 32 → qd (S.data.toList.drop 1) = none → Q .ret ts' m')
    (hx : ∀ (ts' : Fr) m', Old b m' → ts' 2 = .pointer (some ⟨i2, 0, none⟩) → m'.get i2 = .own cs 32 → qd (S.data.toList.drop 1) = none → Q (.exit 5) ts' m')
    (h1 : ∀ (ts' : Fr) m' n t, Old b m' → ts' 2 = .pointer (some ⟨i2, 0, none⟩) → ts' 3 = .int .i64 (n + 1 : Nat) → m'.get i2 = .own (Tk.cells ⟨3, t, 0⟩ 0) 32 → qd (S.data.toList.drop 1) = some (n, t) → Q .ret ts' m') :
    LoopW (AbW Tryd.prog w0 rc24_9) Q ts m := by
  have st : ∀ {ts' : Fr} {m' : Mem} {V : List Value} {R : Value → Mem → Prop} {x : Operand}, ts' 2 = .pointer (some ⟨i2, 0, none⟩) → m'.get i2 = .own cs 32 → ev ts' x = .agg ⟨V⟩ → V.length = 4 → V.all oneC = true → R undef (m'.set i2 (.own V 32)) → SK Tryd.prog w0 (.e (.st 4 (.tmp 2) x)) ts' m' R := fun {ts' m' V R x} e2 g ex el eo hR => by
    refine SK_st (i := i2) (o := 0) (by simp [wkA, retV, stabOk, dC, ev, fillD, pickCells, putAt, bnd, slD, List.getElem?_cons_zero, List.getElem?_cons_succ, dR.eq_20, e2]) (e := 32) g (by omega) (by rw [ex]; exact el) (by rw [ex]; exact eo) ?_
    have : putAt cs 0 (cellsV (ev ts' x)) = V := by
      rw [ex]
      show List.take 0 cs ++ V ++ List.drop (0 + V.length) cs = V
      rw [el, List.drop_eq_nil_of_le (by omega)]; simp
    rw [this]; exact hR
  refine LoopW_of (fun k ts' m' => ∃ j out, j + k = S.size ∧ 1 ≤ j ∧ out.length < j ∧ Old m m' ∧ ts' 0 = .string S ∧ ts' 2 = .pointer (some ⟨i2, 0, none⟩) ∧ ts' 11 = .string ⟨⟨out⟩⟩ ∧ ts' 12 = .int .i64 (j : Nat) ∧ qd (S.data.toList.drop 1) = (qd (S.data.toList.drop j)).map fun p => (p.1 + (j - 1), out ++ p.2)) (S.size - 1) ?_ ?_
  · exact ⟨1, [], by omega, by omega, by simp, Old.refl m, t0, t2, t11, t12, by simp⟩
  · rintro k ts2 m2 K ⟨j, out, hj, hj1, hol, o2, s0, s2, s11, s12, hqd⟩ hK
    have g22 : m2.get i2 = .own cs 32 := by rw [o2.2 _ hi2, g2]
    have ob2 := ho.trans o2
    simp -implicitDefEqProofs (disch := first | assumption | (simp only [wnA]; done) | (simp only [wnA]; omega) | omega | fail) [rc24_9, wkA, retV, stabOk, dC, ev, fillD, pickCells, putAt, bnd, slD, List.getElem?_cons_zero, List.getElem?_cons_succ, dR.eq_20, Mem.cell, Mem.row, wmA, s0, s12]
    rcases hd : S.data.toList.drop j with _ | ⟨c, r⟩
    · have hjj := drop_nil hd (by omega)
      have hlt : ¬ j < S.size := by omega
      rw [hd] at hqd
      simp -implicitDefEqProofs (disch := first | assumption | (simp only [wnA]; done) | (simp only [wnA]; omega) | omega | fail) [wkA, retV, stabOk, dC, ev, fillD, pickCells, putAt, bnd, slD, List.getElem?_cons_zero, List.getElem?_cons_succ, dR.eq_20, Mem.cell, Mem.row, wmA, s0, s12, hlt]
      exact hx _ m2 ob2 (by simp [s2]) g22 (by rw [hqd]; rfl)
    · obtain ⟨hlt, g1, hr⟩ := at_S hd
      have hex := ext1 hd
      rw [hd] at hqd
      have w1 : IntKind.i64.wrap ((j : Int) + 1) = (j : Int) + 1 := w64 (by omega)
      by_cases h32 : c.toNat < 32
      · have i32 : ¬ (32 : Int) ≤ (c.toNat : Int) := by omega
        simp -implicitDefEqProofs (disch := first | assumption | (simp only [wnA]; done) | (simp only [wnA]; omega) | omega | fail) [wkA, retV, stabOk, dC, ev, fillD, pickCells, putAt, bnd, slD, List.getElem?_cons_zero, List.getElem?_cons_succ, dR.eq_20, Mem.cell, Mem.row, wmA, s0, s12, hlt, g1, getOf g1, i32]
        exact hx _ m2 ob2 (by simp [s2]) g22 (by rw [hqd, qd_bad (.inl h32)]; rfl)
      · have i32 : (32 : Int) ≤ (c.toNat : Int) := by omega
        by_cases h126 : 126 < c.toNat
        · have i126 : ¬ (c.toNat : Int) ≤ 126 := by omega
          simp -implicitDefEqProofs (disch := first | assumption | (simp only [wnA]; done) | (simp only [wnA]; omega) | omega | fail) [wkA, retV, stabOk, dC, ev, fillD, pickCells, putAt, bnd, slD, List.getElem?_cons_zero, List.getElem?_cons_succ, dR.eq_20, Mem.cell, Mem.row, wmA, s0, s12, hlt, g1, getOf g1, i32, i126]
          exact hx _ m2 ob2 (by simp [s2]) g22 (by rw [hqd, qd_bad (.inr h126)]; rfl)
        · have i126 : (c.toNat : Int) ≤ 126 := by omega
          have hnb : ¬ (c.toNat < 32 ∨ 126 < c.toNat) := by omega
          by_cases h34 : c.toNat = 34
          · have i34 : (c.toNat : Int) = 34 := by omega
            simp -implicitDefEqProofs (disch := first | assumption | (simp only [wnA]; done) | (simp only [wnA]; omega) | omega | fail) [wkA, retV, stabOk, dC, ev, fillD, pickCells, putAt, bnd, slD, List.getElem?_cons_zero, List.getElem?_cons_succ, dR.eq_20, Mem.cell, Mem.row, wmA, s0, s11, s12, hlt, g1, getOf g1, i34, rc24_8, w1]
            refine st (V := Tk.cells ⟨3, out, 0⟩ 0) (by simp [s2]) g22 (by simp [wkA, retV, stabOk, dC, ev, fillD, pickCells, putAt, bnd, slD, List.getElem?_cons_zero, List.getElem?_cons_succ, dR.eq_20, Tk.cells]) rfl rfl ?_
            simp -implicitDefEqProofs (disch := first | assumption | (simp only [wnA]; done) | (simp only [wnA]; omega) | omega | fail) [wkA, retV, stabOk, dC, ev, fillD, pickCells, putAt, bnd, slD, List.getElem?_cons_zero, List.getElem?_cons_succ, dR.eq_20, Mem.cell, Mem.row, wmA]
            exact h1 _ _ j out (ob2.set hi _) (by simp [s2]) (by simp) (by simp) (by rw [hqd, qd_q h34]; simp; omega)
          · have i34 : ¬ (c.toNat : Int) = 34 := by omega
            have e1 : (j : Int) ≤ (j : Int) + 1 := by omega
            have e2 : (0 : Int) ≤ (j : Int) + 1 := by omega
            have e3 : ((j : Int) + 1).toNat = j + 1 := by omega
            have e4 : (j : Int) + 1 ≤ (S.size : Int) := by omega
            have e5 : j + 1 ≤ S.size := by omega
            by_cases h92 : c.toNat = 92
            · have i92 : (c.toNat : Int) = 92 := by omega
              rcases r with _ | ⟨e, r⟩
              · have hjs := drop_nil hr (by omega)
                have ijs : ¬ (j : Int) + 1 < (S.size : Int) := by omega
                simp -implicitDefEqProofs (disch := first | assumption | (simp only [wnA]; done) | (simp only [wnA]; omega) | omega | fail) [wkA, retV, stabOk, dC, ev, fillD, pickCells, putAt, bnd, slD, List.getElem?_cons_zero, List.getElem?_cons_succ, dR.eq_20, Mem.cell, Mem.row, wmA, s0, s11, s12, hlt, g1, getOf g1, i32, i126, beqF i34, bneF i92, rc24_8, w1, ijs]
                refine st (V := Tk.cells ⟨0, [], 0⟩ 0) (by simp [s2]) g22 (by simp [wkA, retV, stabOk, dC, ev, fillD, pickCells, putAt, bnd, slD, List.getElem?_cons_zero, List.getElem?_cons_succ, dR.eq_20, Tk.cells]) rfl rfl ?_
                simp -implicitDefEqProofs (disch := first | assumption | (simp only [wnA]; done) | (simp only [wnA]; omega) | omega | fail) [wkA, retV, stabOk, dC, ev, fillD, pickCells, putAt, bnd, slD, List.getElem?_cons_zero, List.getElem?_cons_succ, dR.eq_20, Mem.cell, Mem.row, wmA]
                exact h0 _ _ (ob2.set hi _) (by simp [s2]) (by simp) (by simp) (by rw [hqd, qd_e0 h92]; rfl)
              · obtain ⟨hlt2, g2', hr2⟩ := at_S hr
                have hex2 := ext1 hr
                have ijs : (j : Int) + 1 < (S.size : Int) := by omega
                simp -implicitDefEqProofs (disch := first | assumption | (simp only [wnA]; done) | (simp only [wnA]; omega) | omega | fail) [wkA, retV, stabOk, dC, ev, fillD, pickCells, putAt, bnd, slD, List.getElem?_cons_zero, List.getElem?_cons_succ, dR.eq_20, Mem.cell, Mem.row, wmA, s0, s11, s12, hlt, g1, getOf g1, i32, i126, beqF i34, bneF i92, rc24_8, w1, ijs, e2, e3, hlt2, g2', getOf g2']
                refine c_in (S := ⟨#[34, 92, 114, 110]⟩) (by decide) ?_
                rw [esc_con]
                cases he : escD e with
                | none =>
                  simp -implicitDefEqProofs (disch := first | assumption | (simp only [wnA]; done) | (simp only [wnA]; omega) | omega | fail) [wkA, retV, stabOk, dC, ev, fillD, pickCells, putAt, bnd, slD, List.getElem?_cons_zero, List.getElem?_cons_succ, dR.eq_20, Mem.cell, Mem.row, wmA]
                  refine st (V := Tk.cells ⟨0, [], 0⟩ 0) (by simp [s2]) g22 (by simp [wkA, retV, stabOk, dC, ev, fillD, pickCells, putAt, bnd, slD, List.getElem?_cons_zero, List.getElem?_cons_succ, dR.eq_20, Tk.cells]) rfl rfl ?_
                  simp -implicitDefEqProofs (disch := first | assumption | (simp only [wnA]; done) | (simp only [wnA]; omega) | omega | fail) [wkA, retV, stabOk, dC, ev, fillD, pickCells, putAt, bnd, slD, List.getElem?_cons_zero, List.getElem?_cons_succ, dR.eq_20, Mem.cell, Mem.row, wmA]
                  exact h0 _ _ (ob2.set hi _) (by simp [s2]) (by simp) (by simp) (by rw [hqd, qd_e1 h92 he]; rfl)
                | some x =>
                  simp -implicitDefEqProofs (disch := first | assumption | (simp only [wnA]; done) | (simp only [wnA]; omega) | omega | fail) [wkA, retV, stabOk, dC, ev, fillD, pickCells, putAt, bnd, slD, List.getElem?_cons_zero, List.getElem?_cons_succ, dR.eq_20, Mem.cell, Mem.row, wmA, s0, s11, s12, w1]
                  obtain ⟨kk, hlk⟩ := esc4 he
                  have hcat : dBin .add (.string ⟨⟨out⟩⟩) (.string ⟨⟨[x]⟩⟩) = some (.string ⟨⟨out ++ [x]⟩⟩) := cat2 (by simp; omega)
                  have w3 : IntKind.i64.wrap ((j : Int) + 1 + 1) = (j : Int) + 1 + 1 := w64 (by omega)
                  have f1 : (0 : Int) ≤ (j : Int) + 1 + 1 := by omega
                  have f2 : ((j : Int) + 1 + 1).toNat = j + 1 + 1 := by omega
                  have f3 : (j : Int) + 1 + 1 ≤ (S.size : Int) := by omega
                  have f4 : (j : Int) + 1 ≤ (j : Int) + 1 + 1 := by omega
                  have f5 : j + 1 + 1 ≤ S.size := by omega
                  rw [SK_mkm]
                  simp -implicitDefEqProofs (disch := first | assumption | (simp only [wnA]; done) | (simp only [wnA]; omega) | omega | fail) [wkA, retV, stabOk, dC, ev, fillD, pickCells, putAt, bnd, slD, List.getElem?_cons_zero, List.getElem?_cons_succ, dR.eq_20, Mem.cell, Mem.row, wmA]
                  refine SK_mup (b := m2) (r := m2.next) (clk := 0) (es := []) ((Old.refl m2).push _) (Nat.le_refl _) (by simp [wkA, retV, stabOk, dC, ev, fillD, pickCells, putAt, bnd, slD, List.getElem?_cons_zero, List.getElem?_cons_succ, dR.eq_20]) (by simp) rfl fun m3 o3 g3 => ?_
                  simp -implicitDefEqProofs (disch := first | assumption | (simp only [wnA]; done) | (simp only [wnA]; omega) | omega | fail) [wkA, retV, stabOk, dC, ev, fillD, pickCells, putAt, bnd, slD, List.getElem?_cons_zero, List.getElem?_cons_succ, dR.eq_20, Mem.cell, Mem.row, wmA]
                  refine SK_mup (b := m2) (r := m2.next) (clk := 1) (es := E4.take 1) o3 (Nat.le_refl _) (by simp [wkA, retV, stabOk, dC, ev, fillD, pickCells, putAt, bnd, slD, List.getElem?_cons_zero, List.getElem?_cons_succ, dR.eq_20]) g3 rfl fun m4 o4 g4 => ?_
                  simp -implicitDefEqProofs (disch := first | assumption | (simp only [wnA]; done) | (simp only [wnA]; omega) | omega | fail) [wkA, retV, stabOk, dC, ev, fillD, pickCells, putAt, bnd, slD, List.getElem?_cons_zero, List.getElem?_cons_succ, dR.eq_20, Mem.cell, Mem.row, wmA]
                  refine SK_mup (b := m2) (r := m2.next) (clk := 2) (es := E4.take 2) o4 (Nat.le_refl _) (by simp [wkA, retV, stabOk, dC, ev, fillD, pickCells, putAt, bnd, slD, List.getElem?_cons_zero, List.getElem?_cons_succ, dR.eq_20]) g4 rfl fun m5 o5 g5 => ?_
                  simp -implicitDefEqProofs (disch := first | assumption | (simp only [wnA]; done) | (simp only [wnA]; omega) | omega | fail) [wkA, retV, stabOk, dC, ev, fillD, pickCells, putAt, bnd, slD, List.getElem?_cons_zero, List.getElem?_cons_succ, dR.eq_20, Mem.cell, Mem.row, wmA]
                  refine SK_mup (b := m2) (r := m2.next) (clk := 3) (es := E4.take 3) o5 (Nat.le_refl _) (by simp [wkA, retV, stabOk, dC, ev, fillD, pickCells, putAt, bnd, slD, List.getElem?_cons_zero, List.getElem?_cons_succ, dR.eq_20]) g5 rfl fun m6 o6 g6 => ?_
                  have g6 : m6.get m2.next = .map E4 4 := g6
                  simp -implicitDefEqProofs (disch := first | assumption | (simp only [wnA]; done) | (simp only [wnA]; omega) | omega | fail) [wkA, retV, stabOk, dC, ev, fillD, pickCells, putAt, bnd, slD, List.getElem?_cons_zero, List.getElem?_cons_succ, dR.eq_20, Mem.cell, Mem.row, wmA, s0, f1, f2, f3, f4, f5, e2, e3, w1, w3, hex2, dR.eq_38, g6, hlk, hcat]
                  refine hK (k - 2) _ m6 (by omega) ⟨j + 2, out ++ [x], by omega, by omega, by simp; omega, o2.trans o6, by simp [s0], by simp [s2], by simp, by simp; omega, ?_⟩
                  rw [hqd, qd_e2 h92 he, Option.map_map]
                  have hd2 : S.data.toList.drop (j + 2) = r := hr2
                  rw [hd2]
                  congr 1
                  funext p
                  simp
                  omega
            · have i92 : ¬ (c.toNat : Int) = 92 := by omega
              have hcat : dBin .add (.string ⟨⟨out⟩⟩) (.string ⟨⟨[c]⟩⟩) = some (.string ⟨⟨out ++ [c]⟩⟩) := cat2 (by simp; omega)
              simp -implicitDefEqProofs (disch := first | assumption | (simp only [wnA]; done) | (simp only [wnA]; omega) | omega | fail) [wkA, retV, stabOk, dC, ev, fillD, pickCells, putAt, bnd, slD, List.getElem?_cons_zero, List.getElem?_cons_succ, dR.eq_20, Mem.cell, Mem.row, wmA, s0, s11, s12, hlt, g1, getOf g1, i32, i126, beqF i34, bneT i92, rc24_8, w1, e1, e2, e3, e4, e5, hex, hcat]
              exact hK (k - 1) _ m2 (by omega) ⟨j + 1, out ++ [c], by omega, by omega, by simp; omega, o2, by simp [s0], by simp [s2], by simp, by simp, by
                rw [hqd, hr, qd_ch hnb h34 h92, Option.map_map]
                congr 1
                funext p
                simp
                omega⟩
theorem c_lone {w0 : World} {m : Mem} {S : ByteArray} {Q : Value → Mem → Prop} (hs1 : 1 ≤ S.size) (hs : S.size ≤ 1000000)
    (h0 : ∀ m' (t : Tk), Old m m' → oneL S.data.toList = none → Q (.tuple ⟨[.agg ⟨t.cells 0⟩, .int .i64 0]⟩) m')
    (h1 : ∀ m' (t : Tk) (n : Nat), Old m m' → oneL S.data.toList = some (t, n) → Q (.tuple ⟨[.agg ⟨t.cells 0⟩, .int .i64 n]⟩) m') :
    AbC Tryd.prog w0 24 [.string S] m Q := by
  refine AbC_fn ok24 (by simp) ?_
  have hl : S.data.toList.length = S.size := by simp
  obtain ⟨c, r, hr⟩ : ∃ c r, S.data.toList = c :: r := by
    match S.data.toList, hl with
    | c :: r, _ => exact ⟨c, r, rfl⟩
    | [], e => simp at e; omega
  obtain ⟨hlt, g1, hr1⟩ := at_S (S := S) (j := 0) (c := c) (r := r) (by rw [List.drop_zero, hr])
  simp only [Nat.zero_add] at hr1
  have o1 : Old m (m.push (.own [.int .i64 0, .string ⟨#[]⟩, .int .i64 0, .int .i64 0] 32)) := (Old.refl m).push _
  have gT : (m.push (.own [.int .i64 0, .string ⟨#[]⟩, .int .i64 0, .int .i64 0] 32)).get m.next = .own [.int .i64 0, .string ⟨#[]⟩, .int .i64 0, .int .i64 0] 32 := by simp
  have nT : m.next + 1 = (m.push (.own [.int .i64 0, .string ⟨#[]⟩, .int .i64 0, .int .i64 0] 32)).next := by simp
  simp -implicitDefEqProofs (disch := first | assumption | (simp only [wnA]; done) | (simp only [wnA]; omega) | omega | fail) [rc24, ro24, wkA, retV, stabOk, dC, ev, fillD, pickCells, putAt, bnd, slD, List.getElem?_cons_zero, List.getElem?_cons_succ, dR.eq_20, Mem.cell, Mem.row, wmA, hlt, g1, getOf g1]
  generalize m.push (.own [.int .i64 0, .string ⟨#[]⟩, .int .i64 0, .int .i64 0] 32) = m1 at *
  have st : ∀ {ts' : Fr} {V : List Value} {R : Value → Mem → Prop} {x : Operand}, ts' 2 = .pointer (some ⟨m.next, 0, none⟩) → ev ts' x = .agg ⟨V⟩ → V.length = 4 → V.all oneC = true → R undef (m1.set m.next (.own V 32)) → SK Tryd.prog w0 (.e (.st 4 (.tmp 2) x)) ts' m1 R := fun {ts' V R x} e2 ex el eo hR => by
    refine SK_st (i := m.next) (o := 0) (by simp [wkA, retV, stabOk, dC, ev, fillD, pickCells, putAt, bnd, slD, List.getElem?_cons_zero, List.getElem?_cons_succ, dR.eq_20, e2]) (e := 32) gT (by simp) (by rw [ex]; exact el) (by rw [ex]; exact eo) ?_
    have : putAt [.int .i64 0, .string ⟨#[]⟩, .int .i64 0, .int .i64 0] 0 (cellsV (ev ts' x)) = V := by
      rw [ex]
      show List.take 0 _ ++ V ++ List.drop (0 + V.length) _ = V
      rw [el, List.drop_eq_nil_of_le (by simp)]; simp
    rw [this]; exact hR
  refine c_in (S := ⟨#[58, 59, 44, 123, 125]⟩) (by decide) ?_
  rw [sg_con]
  cases hsg : isSg c with
  | true =>
    obtain ⟨n1, n2, n3⟩ := sg_no hsg
    have ho : oneL S.data.toList = some (⟨4, [c], 0⟩, 1) := by rw [hr]; simp [oneL, n1, n2, n3, hsg]
    have e1 : S.extract 0 1 = ⟨⟨[c]⟩⟩ := by rw [ext0, hr]; rfl
    have hs1' : (1 : Int) ≤ (S.size : Int) := by omega
    simp -implicitDefEqProofs (disch := first | assumption | (simp only [wnA]; done) | (simp only [wnA]; omega) | omega | fail) [wkA, retV, stabOk, dC, ev, fillD, pickCells, putAt, bnd, slD, List.getElem?_cons_zero, List.getElem?_cons_succ, dR.eq_20, Mem.cell, Mem.row, wmA, hs1, hs1', e1]
    refine st (V := Tk.cells ⟨4, [c], 0⟩ 0) (by simp) (by simp [wkA, retV, stabOk, dC, ev, fillD, pickCells, putAt, bnd, slD, List.getElem?_cons_zero, List.getElem?_cons_succ, dR.eq_20, Tk.cells]) rfl rfl ?_
    simp -implicitDefEqProofs (disch := first | assumption | (simp only [wnA]; done) | (simp only [wnA]; omega) | omega | fail) [wkA, retV, stabOk, dC, ev, fillD, pickCells, putAt, bnd, slD, List.getElem?_cons_zero, List.getElem?_cons_succ, dR.eq_20, Mem.cell, Mem.row, wmA, Tk.cells]
    exact h1 _ ⟨4, [c], 0⟩ 1 (o1.set (Nat.le_refl _) _) ho
  | false =>
    simp -implicitDefEqProofs (disch := first | assumption | (simp only [wnA]; done) | (simp only [wnA]; omega) | omega | fail) [wkA, retV, stabOk, dC, ev, fillD, pickCells, putAt, bnd, slD, List.getElem?_cons_zero, List.getElem?_cons_succ, dR.eq_20, Mem.cell, Mem.row, wmA]
    cases hle : isLet c with
    | true =>
      have h97 : (97 : Int) ≤ (c.toNat : Int) ∧ (c.toNat : Int) ≤ 122 := by
        simp only [isLet, Bool.and_eq_true, decide_eq_true_eq] at hle
        omega
      have ho : oneL S.data.toList = some (⟨1, S.data.toList.take (wordN false S.data.toList), 0⟩, wordN false S.data.toList) := by rw [hr]; simp [oneL, hle]
      have hwl := wordN_le false S.data.toList
      simp -implicitDefEqProofs (disch := first | assumption | (simp only [wnA]; done) | (simp only [wnA]; omega) | omega | fail) [wkA, retV, stabOk, dC, ev, fillD, pickCells, putAt, bnd, slD, List.getElem?_cons_zero, List.getElem?_cons_succ, dR.eq_20, Mem.cell, Mem.row, wmA, h97]
      refine w_lword hs hr hle (by simp [frA_at]) (by simp) fun ts' e0 e2 e4 => ?_
      simp at e0 e2
      generalize wordN false S.data.toList = n at *
      have hn : n ≤ S.size := by omega
      have hn2 : (n : Int) ≤ (S.size : Int) := by omega
      simp -implicitDefEqProofs (disch := first | assumption | (simp only [wnA]; done) | (simp only [wnA]; omega) | omega | fail) [wkA, retV, stabOk, dC, ev, fillD, pickCells, putAt, bnd, slD, List.getElem?_cons_zero, List.getElem?_cons_succ, dR.eq_20, Mem.cell, Mem.row, wmA, rc24_2, e0, e4, frA_at, hn, hn2, ext0]
      refine st (V := Tk.cells ⟨1, S.data.toList.take n, 0⟩ 0) (by simp [e2]) (by simp [wkA, retV, stabOk, dC, ev, fillD, pickCells, putAt, bnd, slD, List.getElem?_cons_zero, List.getElem?_cons_succ, dR.eq_20, Tk.cells]) rfl rfl ?_
      simp -implicitDefEqProofs (disch := first | assumption | (simp only [wnA]; done) | (simp only [wnA]; omega) | omega | fail) [wkA, retV, stabOk, dC, ev, fillD, pickCells, putAt, bnd, slD, List.getElem?_cons_zero, List.getElem?_cons_succ, dR.eq_20, Mem.cell, Mem.row, wmA, Tk.cells, e2]
      exact h1 _ ⟨1, S.data.toList.take n, 0⟩ n (o1.set (Nat.le_refl _) _) ho
    | false =>
      by_cases h97 : 97 ≤ c.toNat
      · have i97 : (97 : Int) ≤ (c.toNat : Int) := by omega
        have i122 : ¬ (c.toNat : Int) ≤ 122 := by
          simp only [isLet, Bool.and_eq_false_iff, decide_eq_false_iff_not] at hle
          omega
        have hdi : isDig c = false := by
          simp only [isDig, Bool.and_eq_false_iff, decide_eq_false_iff_not]
          omega
        have ho : oneL S.data.toList = none := by rw [hr]; simp [oneL, hle, hdi, show ¬ c.toNat = 34 from by omega, hsg]
        have i48 : (48 : Int) ≤ (c.toNat : Int) := by omega
        have i57 : ¬ (c.toNat : Int) ≤ 57 := by omega
        have i34 : ¬ (c.toNat : Int) = 34 := by omega
        simp -implicitDefEqProofs (disch := first | assumption | (simp only [wnA]; done) | (simp only [wnA]; omega) | omega | fail) [wkA, retV, stabOk, dC, ev, fillD, pickCells, putAt, bnd, slD, List.getElem?_cons_zero, List.getElem?_cons_succ, dR.eq_20, Mem.cell, Mem.row, wmA, i97, i122, i48, i57, beqF i34, rc24_10]
        refine st (V := Tk.cells ⟨0, [], 0⟩ 0) (by simp) (by simp [wkA, retV, stabOk, dC, ev, fillD, pickCells, putAt, bnd, slD, List.getElem?_cons_zero, List.getElem?_cons_succ, dR.eq_20, Tk.cells]) rfl rfl ?_
        simp -implicitDefEqProofs (disch := first | assumption | (simp only [wnA]; done) | (simp only [wnA]; omega) | omega | fail) [wkA, retV, stabOk, dC, ev, fillD, pickCells, putAt, bnd, slD, List.getElem?_cons_zero, List.getElem?_cons_succ, dR.eq_20, Mem.cell, Mem.row, wmA, Tk.cells]
        exact h0 _ ⟨0, [], 0⟩ (o1.set (Nat.le_refl _) _) ho
      · have i97 : ¬ (97 : Int) ≤ (c.toNat : Int) := by omega
        cases hdi : isDig c with
        | true =>
          have i48 : (48 : Int) ≤ (c.toNat : Int) ∧ (c.toNat : Int) ≤ 57 := by
            simp only [isDig, Bool.and_eq_true, decide_eq_true_eq] at hdi
            omega
          have ho : oneL S.data.toList = (numV S.data.toList).map fun v => ((⟨2, S.data.toList.take (nN S.data.toList), ((v : Nat) : Int)⟩ : Tk), nN S.data.toList) := by rw [hr]; simp [oneL, hle, hdi]
          have num : ∀ ts' : Fr, LNs S m.next ts' → ts' 7 = .string (sgS (nB S.data.toList)) → AbW Tryd.prog w0 rc24_7 (inBlockA 0 (thenA (AbW Tryd.prog w0 rc24_10 (bodyA [.ldn 4 (.tmp 2), .mv (.tmp 3)] Q)) (bodyA [.ldn 4 (.tmp 2), .mv (.tmp 3)] Q))) ts' m1 := fun ts' hL e7 => by
            refine w_lnum hs gT rfl hL e7 (fun ts2 V e2 e3 hV hn => ?_) fun ts2 V v e2 e3 hV hn => ?_
            · have g' : (m1.set m.next (.own V 32)).get m.next = .own [.int .i64 0, .string ⟨⟨[]⟩⟩, .int .i64 0, .int .i64 0] 32 := by rw [hV]; simp [Tk.cells]
              have o' : Old m (m1.set m.next (.own V 32)) := o1.set (Nat.le_refl _) _
              generalize m1.set m.next (.own V 32) = M at *
              simp -implicitDefEqProofs (disch := first | assumption | (simp only [wnA]; done) | (simp only [wnA]; omega) | omega | fail) [wkA, retV, stabOk, dC, ev, fillD, pickCells, putAt, bnd, slD, List.getElem?_cons_zero, List.getElem?_cons_succ, dR.eq_20, Mem.cell, Mem.row, wmA, e2, e3, g']
              exact h0 M ⟨0, [], 0⟩ o' (by rw [ho, hn]; rfl)
            · have g' : (m1.set m.next (.own V 32)).get m.next = .own [.int .i64 2, .string ⟨⟨S.data.toList.take (nN S.data.toList)⟩⟩, .int .i64 (v : Nat), .int .i64 0] 32 := by rw [hV]; simp [Tk.cells]
              have o' : Old m (m1.set m.next (.own V 32)) := o1.set (Nat.le_refl _) _
              generalize m1.set m.next (.own V 32) = M at *
              simp -implicitDefEqProofs (disch := first | assumption | (simp only [wnA]; done) | (simp only [wnA]; omega) | omega | fail) [wkA, retV, stabOk, dC, ev, fillD, pickCells, putAt, bnd, slD, List.getElem?_cons_zero, List.getElem?_cons_succ, dR.eq_20, Mem.cell, Mem.row, wmA, e2, e3, g']
              exact h1 M ⟨2, S.data.toList.take (nN S.data.toList), (v : Nat)⟩ (nN S.data.toList) o' (by rw [ho, hn]; rfl)
          by_cases h2 : 1 < S.size
          · have i2 : (1 : Int) < (S.size : Int) := by omega
            have i2b : (2 : Int) ≤ (S.size : Int) := by omega
            have i2c : 2 ≤ S.size := by omega
            obtain ⟨d, r', rfl⟩ : ∃ d r', r = d :: r' := by
              cases r with
              | nil => rw [hr] at hl; simp at hl; omega
              | cons d r' => exact ⟨d, r', rfl⟩
            have hx : S.extract 0 2 = ⟨⟨[c, d]⟩⟩ := by rw [ext0, hr]; rfl
            cases hh : hexH S.data.toList with
            | true =>
              have eB : nB S.data.toList = 16 := by simp [nB, hh]
              have eF : nF S.data.toList = 2 := by simp [nF, hh]
              rw [hr] at hh
              simp only [hexH, Bool.and_eq_true, beq_iff_eq] at hh
              have ec : c = 48 := UInt8.toNat_inj.1 hh.1
              have ed : d = 120 := UInt8.toNat_inj.1 hh.2
              have hcd : ([c, d] == [48, 120]) = true := by rw [ec, ed]; rfl
              simp -implicitDefEqProofs (disch := first | assumption | (simp only [wnA]; done) | (simp only [wnA]; omega) | omega | fail) [wkA, retV, stabOk, dC, ev, fillD, pickCells, putAt, bnd, slD, List.getElem?_cons_zero, List.getElem?_cons_succ, dR.eq_20, Mem.cell, Mem.row, wmA, i97, i48, h2, i2, i2b, i2c, hx, hcd]
              exact num _ ⟨by simp [frA_at], by simp, by rw [eB]; simp, by rw [eF]; simp⟩ (by rw [eB]; simp [sgS])
            | false =>
              have eB : nB S.data.toList = 10 := by simp [nB, hh]
              have eF : nF S.data.toList = 0 := by simp [nF, hh]
              rw [hr] at hh
              have hcd : ([c, d] == [48, 120]) = false := by
                cases hx : ([c, d] == [48, 120]) with
                | false => rfl
                | true =>
                  have := beq_iff_eq.1 hx
                  simp only [List.cons.injEq] at this
                  rw [this.1, this.2.1] at hh
                  cases hh
              simp -implicitDefEqProofs (disch := first | assumption | (simp only [wnA]; done) | (simp only [wnA]; omega) | omega | fail) [wkA, retV, stabOk, dC, ev, fillD, pickCells, putAt, bnd, slD, List.getElem?_cons_zero, List.getElem?_cons_succ, dR.eq_20, Mem.cell, Mem.row, wmA, i97, i48, h2, i2, i2b, i2c, hx, hcd]
              exact num _ ⟨by simp [frA_at], by simp, by rw [eB]; simp, by rw [eF]; simp⟩ (by rw [eB]; simp [sgS])
          · have i2 : ¬ (1 : Int) < (S.size : Int) := by omega
            have hh : hexH S.data.toList = false := by
              rw [hr]
              cases r with
              | nil => rfl
              | cons d r' => rw [hr] at hl; simp at hl; omega
            have eB : nB S.data.toList = 10 := by simp [nB, hh]
            have eF : nF S.data.toList = 0 := by simp [nF, hh]
            simp -implicitDefEqProofs (disch := first | assumption | (simp only [wnA]; done) | (simp only [wnA]; omega) | omega | fail) [wkA, retV, stabOk, dC, ev, fillD, pickCells, putAt, bnd, slD, List.getElem?_cons_zero, List.getElem?_cons_succ, dR.eq_20, Mem.cell, Mem.row, wmA, i97, i48, h2, i2]
            exact num _ ⟨by simp [frA_at], by simp, by rw [eB]; simp, by rw [eF]; simp⟩ (by rw [eB]; simp [sgS])
        | false =>
          have hnd : ¬ ((48 : Int) ≤ (c.toNat : Int) ∧ (c.toNat : Int) ≤ 57) := by
            simp only [isDig, Bool.and_eq_false_iff, decide_eq_false_iff_not] at hdi
            omega
          have rest : c.toNat ≠ 34 → oneL S.data.toList = none := fun h34 => by rw [hr]; simp [oneL, hle, hdi, h34, hsg]
          have hoq : c.toNat = 34 → oneL S.data.toList = (qd (S.data.toList.drop 1)).map fun p => (⟨3, p.2, 0⟩, p.1 + 1) := fun h34 => by rw [hr]; simp [oneL, hle, hdi, h34]
          by_cases h34 : c.toNat = 34
          · have i34 : (c.toNat : Int) = 34 := by omega
            have hoq := hoq h34
            simp -implicitDefEqProofs (disch := first | assumption | (simp only [wnA]; done) | (simp only [wnA]; omega) | omega | fail) [wkA, retV, stabOk, dC, ev, fillD, pickCells, putAt, bnd, slD, List.getElem?_cons_zero, List.getElem?_cons_succ, dR.eq_20, Mem.cell, Mem.row, wmA, i34]
            refine w_lquo (b := m) (m := m1) (i2 := m.next) (cs := [.int .i64 0, .string ⟨#[]⟩, .int .i64 0, .int .i64 0]) hs1 hs o1 (Nat.le_refl _) (by omega) gT rfl (by simp [frA_at]) (by simp) (by simp) (by simp) (fun ts' m' o e2 e3 g hn => ?_) (fun ts' m' o e2 g hn => ?_) (fun ts' m' n t o e2 e3 g hn => ?_)
            · have g' : m'.get m.next = .own [.int .i64 0, .string ⟨⟨[]⟩⟩, .int .i64 0, .int .i64 0] 32 := g
              simp -implicitDefEqProofs (disch := first | assumption | (simp only [wnA]; done) | (simp only [wnA]; omega) | omega | fail) [wkA, retV, stabOk, dC, ev, fillD, pickCells, putAt, bnd, slD, List.getElem?_cons_zero, List.getElem?_cons_succ, dR.eq_20, Mem.cell, Mem.row, wmA, e2, e3, g']
              exact h0 m' ⟨0, [], 0⟩ o (by rw [hoq, hn]; rfl)
            · simp -implicitDefEqProofs (disch := first | assumption | (simp only [wnA]; done) | (simp only [wnA]; omega) | omega | fail) [wkA, retV, stabOk, dC, ev, fillD, pickCells, putAt, bnd, slD, List.getElem?_cons_zero, List.getElem?_cons_succ, dR.eq_20, Mem.cell, Mem.row, wmA, rc24_10]
              refine SK_st (i := m.next) (o := 0) (by simp [wkA, retV, stabOk, dC, ev, fillD, pickCells, putAt, bnd, slD, List.getElem?_cons_zero, List.getElem?_cons_succ, dR.eq_20, e2]) (e := 32) g (by simp) (by simp [wkA, retV, stabOk, dC, ev, fillD, pickCells, putAt, bnd, slD, List.getElem?_cons_zero, List.getElem?_cons_succ, dR.eq_20]) (by simp [wkA, retV, stabOk, dC, ev, fillD, pickCells, putAt, bnd, slD, List.getElem?_cons_zero, List.getElem?_cons_succ, dR.eq_20, oneC]) ?_
              simp -implicitDefEqProofs (disch := first | assumption | (simp only [wnA]; done) | (simp only [wnA]; omega) | omega | fail) [wkA, retV, stabOk, dC, ev, fillD, pickCells, putAt, bnd, slD, List.getElem?_cons_zero, List.getElem?_cons_succ, dR.eq_20, Mem.cell, Mem.row, wmA, e2]
              exact h0 _ ⟨0, [], 0⟩ (o.set (Nat.le_refl _) _) (by rw [hoq, hn]; rfl)
            · have g' : m'.get m.next = .own [.int .i64 3, .string ⟨⟨t⟩⟩, .int .i64 0, .int .i64 0] 32 := g
              generalize hN : n + 1 = N at *
              simp -implicitDefEqProofs (disch := first | assumption | (simp only [wnA]; done) | (simp only [wnA]; omega) | omega | fail) [wkA, retV, stabOk, dC, ev, fillD, pickCells, putAt, bnd, slD, List.getElem?_cons_zero, List.getElem?_cons_succ, dR.eq_20, Mem.cell, Mem.row, wmA, e2, e3, g']
              exact h1 m' ⟨3, t, 0⟩ N o (by rw [hoq, hn]; simp [hN])
          · have i34 : ¬ (c.toNat : Int) = 34 := by omega
            have ho := rest h34
            by_cases h48 : 48 ≤ c.toNat
            · have i48 : (48 : Int) ≤ (c.toNat : Int) := by omega
              have i57 : ¬ (c.toNat : Int) ≤ 57 := by omega
              simp -implicitDefEqProofs (disch := first | assumption | (simp only [wnA]; done) | (simp only [wnA]; omega) | omega | fail) [wkA, retV, stabOk, dC, ev, fillD, pickCells, putAt, bnd, slD, List.getElem?_cons_zero, List.getElem?_cons_succ, dR.eq_20, Mem.cell, Mem.row, wmA, i97, i48, i57, beqF i34, rc24_10]
              refine st (V := Tk.cells ⟨0, [], 0⟩ 0) (by simp) (by simp [wkA, retV, stabOk, dC, ev, fillD, pickCells, putAt, bnd, slD, List.getElem?_cons_zero, List.getElem?_cons_succ, dR.eq_20, Tk.cells]) rfl rfl ?_
              simp -implicitDefEqProofs (disch := first | assumption | (simp only [wnA]; done) | (simp only [wnA]; omega) | omega | fail) [wkA, retV, stabOk, dC, ev, fillD, pickCells, putAt, bnd, slD, List.getElem?_cons_zero, List.getElem?_cons_succ, dR.eq_20, Mem.cell, Mem.row, wmA, Tk.cells]
              exact h0 _ ⟨0, [], 0⟩ (o1.set (Nat.le_refl _) _) ho
            · have i48 : ¬ (48 : Int) ≤ (c.toNat : Int) := by omega
              simp -implicitDefEqProofs (disch := first | assumption | (simp only [wnA]; done) | (simp only [wnA]; omega) | omega | fail) [wkA, retV, stabOk, dC, ev, fillD, pickCells, putAt, bnd, slD, List.getElem?_cons_zero, List.getElem?_cons_succ, dR.eq_20, Mem.cell, Mem.row, wmA, i97, i48, beqF i34, rc24_10]
              refine st (V := Tk.cells ⟨0, [], 0⟩ 0) (by simp) (by simp [wkA, retV, stabOk, dC, ev, fillD, pickCells, putAt, bnd, slD, List.getElem?_cons_zero, List.getElem?_cons_succ, dR.eq_20, Tk.cells]) rfl rfl ?_
              simp -implicitDefEqProofs (disch := first | assumption | (simp only [wnA]; done) | (simp only [wnA]; omega) | omega | fail) [wkA, retV, stabOk, dC, ev, fillD, pickCells, putAt, bnd, slD, List.getElem?_cons_zero, List.getElem?_cons_succ, dR.eq_20, Mem.cell, Mem.row, wmA, Tk.cells]
              exact h0 _ ⟨0, [], 0⟩ (o1.set (Nat.le_refl _) _) ho
end Go.Proofs.YtilknkpaghihhaaDoor.Ab
/- The law's own tokens: a text's. -/
set_option linter.unusedVariables false
set_option linter.unusedSimpArgs false
namespace Go.Proofs.YtilknkpaghihhaaDoor.Ab
open Go Go.RowKit
set_option maxHeartbeats 1000000
set_option maxRecDepth 100000

theorem bl_con (c : UInt8) : (ByteArray.mk #[32, 9, 10]).data.toList.contains c = isBl c :=
  beq_iff_eq.1 (allB (p := fun c => (ByteArray.mk #[32, 9, 10]).data.toList.contains c == isBl c) (by decide +kernel) c)
theorem w_lcm {w0 : World} {Q : AQ} {ts : Fr} {m : Mem} {S : ByteArray} {a : Nat} (hs : S.size ≤ 1000000) (ha : a ≤ S.size) (t0 : ts 0 = .string S) (t5 : ts 5 = .int .i64 (a : Nat))
    (hq : ∀ ts', ts' 0 = ts 0 → ts' 4 = ts 4 → ts' 5 = .int .i64 ((a + runN no10 (S.data.toList.drop a) : Nat) : Int) → Q (.exit 3) ts' m) : LoopW (AbW Tryd.prog w0 rc15_1) Q ts m := by
  refine LoopW_of (fun k ts' m' => ∃ j, j + k = S.size ∧ m' = m ∧ ts' 0 = ts 0 ∧ ts' 4 = ts 4 ∧ ts' 5 = .int .i64 (j : Nat) ∧ a + runN no10 (S.data.toList.drop a) = j + runN no10 (S.data.toList.drop j)) (S.size - a) ?_ ?_
  · exact ⟨a, by omega, rfl, rfl, rfl, t5, rfl⟩
  · rintro k ts2 m2 K ⟨j, hj, rfl, s0, s4, s5, hn⟩ hK
    rw [t0] at s0
    simp -implicitDefEqProofs (disch := first | assumption | (simp only [wnA]; done) | (simp only [wnA]; omega) | omega | fail) [rc15_1, wkA, retV, stabOk, dC, ev, fillD, pickCells, putAt, bnd, slD, List.getElem?_cons_zero, List.getElem?_cons_succ, dR.eq_20, Mem.cell, Mem.row, wmA, s0, s5]
    rcases hd : S.data.toList.drop j with _ | ⟨c, r⟩
    · have hjj := drop_nil hd (by omega)
      have hlt : ¬ j < S.size := by omega
      rw [hd] at hn
      simp -implicitDefEqProofs (disch := first | assumption | (simp only [wnA]; done) | (simp only [wnA]; omega) | omega | fail) [wkA, retV, stabOk, dC, ev, fillD, pickCells, putAt, bnd, slD, List.getElem?_cons_zero, List.getElem?_cons_succ, dR.eq_20, Mem.cell, Mem.row, wmA, s0, s5, hlt]
      exact hq _ (by simp [s0, t0]) (by simp [s4]) (by simp [s5, hn, runN])
    · obtain ⟨hlt, g1, hr⟩ := at_S hd
      have w1 : IntKind.i64.wrap ((j : Int) + 1) = (j : Int) + 1 := w64 (by omega)
      rw [hd] at hn
      by_cases h10 : c.toNat = 10
      · have i10 : (c.toNat : Int) = 10 := by omega
        simp -implicitDefEqProofs (disch := first | assumption | (simp only [wnA]; done) | (simp only [wnA]; omega) | omega | fail) [wkA, retV, stabOk, dC, ev, fillD, pickCells, putAt, bnd, slD, List.getElem?_cons_zero, List.getElem?_cons_succ, dR.eq_20, Mem.cell, Mem.row, wmA, s0, s5, hlt, g1, getOf g1, i10]
        exact hq _ (by simp [s0, t0]) (by simp [s4]) (by rw [hn]; simp [s5, runN, no10, h10])
      · have i10 : ¬ (c.toNat : Int) = 10 := by omega
        simp -implicitDefEqProofs (disch := first | assumption | (simp only [wnA]; done) | (simp only [wnA]; omega) | omega | fail) [wkA, retV, stabOk, dC, ev, fillD, pickCells, putAt, bnd, slD, List.getElem?_cons_zero, List.getElem?_cons_succ, dR.eq_20, Mem.cell, Mem.row, wmA, s0, s5, hlt, g1, getOf g1, bneT i10, rc15_0, w1]
        exact hK (k - 1) _ m2 (by omega) ⟨j + 1, by omega, rfl, by simp [s0, t0], by simp [s4], by simp, by rw [hn, hr]; simp only [runN, no10, bne_iff_ne, ne_eq, h10, not_false_eq_true, if_true]; omega⟩


theorem c_lcut {w0 : World} {m : Mem} {S : ByteArray} {Q : Value → Mem → Prop} (hs : S.size ≤ 1000000)
    (he : ∀ m' (a : Nat), Old m m' → cutL 0 S.data.toList = .inl a → Q (.tuple ⟨[.slice none 0 0, .int .i64 (a : Int)]⟩) m')
    (hq : ∀ m' i us, Old m m' → SlO m' 32 4 (some i) (us.flatMap cellP) us.length → m.next ≤ i → us.length ≤ S.size + 1 → cutL 0 S.data.toList = .inr us → Q (.tuple ⟨[slV (some i) us.length 4, .int .i64 (-1)]⟩) m') :
    AbC Tryd.prog w0 15 [.string S] m Q := by
  refine AbC_fn ok15 (by simp) ?_
  simp -implicitDefEqProofs (disch := first | assumption | (simp only [wnA]; done) | (simp only [wnA]; omega) | omega | fail) [rc15, ro15, wkA, retV, stabOk, dC, ev, fillD, pickCells, putAt, bnd, slD, List.getElem?_cons_zero, List.getElem?_cons_succ, dR.eq_20, Mem.cell, Mem.row, wmA]
  refine LoopW_of (fun k ts m' => CS S m k ts m') S.size ?_ ?_
  · exact ⟨0, [], none, by omega, Old.refl m, by simp [frA_at], by simp [slV], by simp, ⟨rfl, rfl⟩, (fun i hi => by cases hi), Nat.le_refl _, by rw [preC_nil]; rfl⟩
  · rintro k ts m2 K ⟨a, out, ob, h1, h2, t0, t4, t5, h6, h7, h8, hc⟩ hK
    have hl := cellsP_len out
    simp -implicitDefEqProofs (disch := first | assumption | (simp only [wnA]; done) | (simp only [wnA]; omega) | omega | fail) [rc15_4, wkA, retV, stabOk, dC, ev, fillD, pickCells, putAt, bnd, slD, List.getElem?_cons_zero, List.getElem?_cons_succ, dR.eq_20, Mem.cell, Mem.row, wmA, t0, t5]
    rcases hd : S.data.toList.drop a with _ | ⟨c, r⟩
    · have haa := drop_nil hd (by omega)
      have hlt : ¬ a < S.size := by omega
      rw [hd, cutL_nil] at hc
      simp -implicitDefEqProofs (disch := first | assumption | (simp only [wnA]; done) | (simp only [wnA]; omega) | omega | fail) [wkA, retV, stabOk, dC, ev, fillD, pickCells, putAt, bnd, slD, List.getElem?_cons_zero, List.getElem?_cons_succ, dR.eq_20, Mem.cell, Mem.row, wmA, t0, t4, t5, hlt, rc15_5]
      rw [SK_bsl (cs := cellP (endT, a)) (by simp [wkA, retV, stabOk, dC, ev, fillD, pickCells, putAt, bnd, slD, List.getElem?_cons_zero, List.getElem?_cons_succ, dR.eq_20, cellP, Tk.cells, endT]) (by simp [cellP, Tk.cells, oneC])]
      simp -implicitDefEqProofs (disch := first | assumption | (simp only [wnA]; done) | (simp only [wnA]; omega) | omega | fail) [wkA, retV, stabOk, dC, ev, fillD, pickCells, putAt, bnd, slD, List.getElem?_cons_zero, List.getElem?_cons_succ, dR.eq_20, Mem.cell, Mem.row, wmA, t4]
      refine SK_ap (h6.push _) (by simp [wkA, retV, stabOk, dC, ev, fillD, pickCells, putAt, bnd, slD, List.getElem?_cons_zero, List.getElem?_cons_succ, dR.eq_20, t4]) (ys := cellP (endT, a)) (by simp -implicitDefEqProofs (disch := first | assumption | (simp only [wnA]; done) | (simp only [wnA]; omega) | omega | fail) [wkA, retV, stabOk, dC, ev, fillD, pickCells, putAt, bnd, slD, List.getElem?_cons_zero, List.getElem?_cons_succ, dR.eq_20, elemsV, Mem.cell, Mem.row, wmA, cellP, Tk.cells]) (k := 1) (by simp [wkA, retV, stabOk, dC, ev, fillD, pickCells, putAt, bnd, slD, List.getElem?_cons_zero, List.getElem?_cons_succ, dR.eq_20]) (by simp) (by simp [oneC, cellP, Tk.cells]) (by omega) (by simp only [maxLen]; omega) (by simp [cellP, Tk.cells]) ?_
      simp -implicitDefEqProofs (disch := first | assumption | (simp only [wnA]; done) | (simp only [wnA]; omega) | omega | fail) [wkA, retV, stabOk, dC, ev, fillD, pickCells, putAt, bnd, slD, List.getElem?_cons_zero, List.getElem?_cons_succ, dR.eq_20, Mem.cell, Mem.row, wmA]
      have hnew : SlO (((m2.push (.own (cellP (endT, a)) 32)).kill ob).push (.own (out.flatMap cellP ++ cellP (endT, a)) 32)) 32 4 (some (m2.next + 1)) (out.flatMap cellP ++ cellP (endT, a)) (out.length + 1) := SlO.new (m := (m2.push (.own (cellP (endT, a)) 32)).kill ob) (e := 32) (sz := 4) (n := out.length + 1) (cs := out.flatMap cellP ++ cellP (endT, a)) (by rw [List.length_append, hl, cellP_len]; omega)
      have e1 : (out ++ [(endT, a)]).flatMap cellP = out.flatMap cellP ++ cellP (endT, a) := by simp
      have e2 : (out ++ [(endT, a)]).length = out.length + 1 := by simp
      have := hq _ (m2.next + 1) (out ++ [(endT, a)]) (((h2.push (.own (cellP (endT, a)) 32)).kill h7).push (.own (out.flatMap cellP ++ cellP (endT, a)) 32)) (by rw [e1, e2]; exact hnew) (by have := h2.1; omega) (by simp; omega) (by rw [hc]; rfl)
      rw [e2] at this
      exact this
    · obtain ⟨hlt, g1, hr⟩ := at_S hd
      have w1 : IntKind.i64.wrap ((a : Int) + 1) = (a : Int) + 1 := w64 (by omega)
      rw [hd] at hc
      simp -implicitDefEqProofs (disch := first | assumption | (simp only [wnA]; done) | (simp only [wnA]; omega) | omega | fail) [wkA, retV, stabOk, dC, ev, fillD, pickCells, putAt, bnd, slD, List.getElem?_cons_zero, List.getElem?_cons_succ, dR.eq_20, Mem.cell, Mem.row, wmA, t0, t5, hlt, g1, getOf g1, rc15_3]
      refine c_in (S := ⟨#[32, 9, 10]⟩) (by decide) ?_
      rw [bl_con]
      cases hnb : isBl c with
      | true =>
        simp -implicitDefEqProofs (disch := first | assumption | (simp only [wnA]; done) | (simp only [wnA]; omega) | omega | fail) [wkA, retV, stabOk, dC, ev, fillD, pickCells, putAt, bnd, slD, List.getElem?_cons_zero, List.getElem?_cons_succ, dR.eq_20, Mem.cell, Mem.row, wmA, t5, w1]
        exact hK (k - 1) _ m2 (by omega) (CS.move (a' := a + 1) h1 h2 t0 t4 h6 h7 h8 (by simp) (by simp) (by simp) (by omega) (by omega) (by rw [hc, cutL_bl hnb, hr]))
      | false =>
        by_cases h35 : c.toNat = 35
        · have i35 : (c.toNat : Int) = 35 := by omega
          have hcm := run_cm (r := r) h35
          have hle := runN_le no10 (c :: r)
          have hdl := congrArg List.length hd
          rw [List.length_drop] at hdl
          have hsz : S.data.toList.length = S.size := by simp
          simp -implicitDefEqProofs (disch := first | assumption | (simp only [wnA]; done) | (simp only [wnA]; omega) | omega | fail) [wkA, retV, stabOk, dC, ev, fillD, pickCells, putAt, bnd, slD, List.getElem?_cons_zero, List.getElem?_cons_succ, dR.eq_20, Mem.cell, Mem.row, wmA, t0, t5, hlt, g1, getOf g1, i35]
          refine w_lcm (S := S) (a := a) hs (by omega) (by simp [t0]) (by simp [t5]) fun ts' e0 e4 e5 => ?_
          simp -implicitDefEqProofs (disch := first | assumption | (simp only [wnA]; done) | (simp only [wnA]; omega) | omega | fail) [wkA, retV, stabOk, dC, ev, fillD, pickCells, putAt, bnd, slD, List.getElem?_cons_zero, List.getElem?_cons_succ, dR.eq_20]
          rw [hd] at e5
          exact hK (S.size - (a + runN no10 (c :: r))) ts' m2 (by omega) (CS.move h1 h2 t0 t4 h6 h7 h8 (by rw [e0]; simp) (by rw [e4]; simp) e5 (by omega) (by omega) (by rw [hc, cutL_cm hnb h35, ← hd, List.drop_drop]))
        · have i35 : ¬ (c.toNat : Int) = 35 := by omega
          have ha1 : a ≤ S.size := by omega
          have ha2 : (a : Int) ≤ (S.size : Int) := by omega
          have hx : (S.extract a S.size).data.toList = S.data.toList.drop a := by
            rw [Lib.extract_eq]
            show List.take _ _ = _
            exact List.take_of_length_le (by simp)
          have hxs : (S.extract a S.size).size = S.size - a := by simp
          simp -implicitDefEqProofs (disch := first | assumption | (simp only [wnA]; done) | (simp only [wnA]; omega) | omega | fail) [wkA, retV, stabOk, dC, ev, fillD, pickCells, putAt, bnd, slD, List.getElem?_cons_zero, List.getElem?_cons_succ, dR.eq_20, Mem.cell, Mem.row, wmA, t0, t5, hlt, ha1, ha2, g1, getOf g1, beqF i35]
          refine c_lone (by omega) (by omega) (fun m1 t o1 hn => ?_) fun m1 t n o1 hn => ?_
          · rw [hx, hd] at hn
            simp -implicitDefEqProofs (disch := first | assumption | (simp only [wnA]; done) | (simp only [wnA]; omega) | omega | fail) [wkA, retV, stabOk, dC, ev, fillD, pickCells, putAt, bnd, slD, List.getElem?_cons_zero, List.getElem?_cons_succ, dR.eq_20, Mem.cell, Mem.row, wmA, Tk.cells]
            refine SK_st (i := m1.next) (o := 0) (by simp [wkA, retV, stabOk, dC, ev, fillD, pickCells, putAt, bnd, slD, List.getElem?_cons_zero, List.getElem?_cons_succ, dR.eq_20]) (e := 32) (by simp -implicitDefEqProofs (disch := first | assumption | (simp only [wnA]; done) | (simp only [wnA]; omega) | omega | fail) [Mem.cell, Mem.row, wmA]; rfl) (by simp) (by simp [wkA, retV, stabOk, dC, ev, fillD, pickCells, putAt, bnd, slD, List.getElem?_cons_zero, List.getElem?_cons_succ, dR.eq_20]) (by simp [wkA, retV, stabOk, dC, ev, fillD, pickCells, putAt, bnd, slD, List.getElem?_cons_zero, List.getElem?_cons_succ, dR.eq_20, oneC]) ?_
            simp -implicitDefEqProofs (disch := first | assumption | (simp only [wnA]; done) | (simp only [wnA]; omega) | omega | fail) [wkA, retV, stabOk, dC, ev, fillD, pickCells, putAt, bnd, slD, List.getElem?_cons_zero, List.getElem?_cons_succ, dR.eq_20, Mem.cell, Mem.row, wmA, t5]
            exact he _ a (((h2.trans o1).push _).set (by have := h2.1; have := o1.1; omega) _) (by rw [hc, cutL_none hnb h35 hn]; rfl)
          · rw [hx, hd] at hn
            have hnl := oneL_len hn
            have hdl := congrArg List.length hd
            rw [List.length_drop] at hdl
            have hsz : S.data.toList.length = S.size := by simp
            have n0 : ¬ (n : Int) = 0 := by omega
            simp -implicitDefEqProofs (disch := first | assumption | (simp only [wnA]; done) | (simp only [wnA]; omega) | omega | fail) [wkA, retV, stabOk, dC, ev, fillD, pickCells, putAt, bnd, slD, List.getElem?_cons_zero, List.getElem?_cons_succ, dR.eq_20, Mem.cell, Mem.row, wmA, Tk.cells]
            refine SK_st (i := m1.next) (o := 0) (by simp [wkA, retV, stabOk, dC, ev, fillD, pickCells, putAt, bnd, slD, List.getElem?_cons_zero, List.getElem?_cons_succ, dR.eq_20]) (e := 32) (by simp -implicitDefEqProofs (disch := first | assumption | (simp only [wnA]; done) | (simp only [wnA]; omega) | omega | fail) [Mem.cell, Mem.row, wmA]; rfl) (by simp) (by simp [wkA, retV, stabOk, dC, ev, fillD, pickCells, putAt, bnd, slD, List.getElem?_cons_zero, List.getElem?_cons_succ, dR.eq_20]) (by simp [wkA, retV, stabOk, dC, ev, fillD, pickCells, putAt, bnd, slD, List.getElem?_cons_zero, List.getElem?_cons_succ, dR.eq_20, oneC]) ?_
            simp -implicitDefEqProofs (disch := first | assumption | (simp only [wnA]; done) | (simp only [wnA]; omega) | omega | fail) [wkA, retV, stabOk, dC, ev, fillD, pickCells, putAt, bnd, slD, List.getElem?_cons_zero, List.getElem?_cons_succ, dR.eq_20, Mem.cell, Mem.row, wmA, beqF n0, rc15_2, t5]
            refine SK_st (i := m1.next) (o := 3) (by simp [wkA, retV, stabOk, dC, ev, fillD, pickCells, putAt, bnd, slD, List.getElem?_cons_zero, List.getElem?_cons_succ, dR.eq_20]) (e := 32) (by simp -implicitDefEqProofs (disch := first | assumption | (simp only [wnA]; done) | (simp only [wnA]; omega) | omega | fail) [Mem.cell, Mem.row, wmA]; rfl) (by simp) (by simp [wkA, retV, stabOk, dC, ev, fillD, pickCells, putAt, bnd, slD, List.getElem?_cons_zero, List.getElem?_cons_succ, dR.eq_20]) (by simp [wkA, retV, stabOk, dC, ev, fillD, pickCells, putAt, bnd, slD, List.getElem?_cons_zero, List.getElem?_cons_succ, dR.eq_20, oneC]) ?_
            simp -implicitDefEqProofs (disch := first | assumption | (simp only [wnA]; done) | (simp only [wnA]; omega) | omega | fail) [wkA, retV, stabOk, dC, ev, fillD, pickCells, putAt, bnd, slD, List.getElem?_cons_zero, List.getElem?_cons_succ, dR.eq_20, Mem.cell, Mem.row, wmA, t4]
            rw [SK_bsl (cs := cellP (t, a)) (by simp [wkA, retV, stabOk, dC, ev, fillD, pickCells, putAt, bnd, slD, List.getElem?_cons_zero, List.getElem?_cons_succ, dR.eq_20, cellP, Tk.cells]) (by simp [cellP, Tk.cells, oneC])]
            have h61 : SlO m1 32 4 ob (out.flatMap cellP) out.length := h6.keep (by have := o1.1; omega) fun i hi => o1.2 i (by subst hi; exact h6.lt)
            have hne : ob ≠ some m1.next := fun e => by subst e; have := h61.lt; omega
            have hM := fun E1 E2 E3 => (((h61.push E1).set hne E2).set hne E3)
            have oM := fun E1 E2 E3 => ((((h2.trans o1).push E1).set (show m.next ≤ m1.next by have := h2.1; have := o1.1; omega) E2).set (show m.next ≤ m1.next by have := h2.1; have := o1.1; omega) E3)
            have w2 : IntKind.i64.wrap ((a : Int) + (n : Int)) = ((a + n : Nat) : Int) := by rw [w64 (by omega)]; omega
            simp -implicitDefEqProofs (disch := first | assumption | (simp only [wnA]; done) | (simp only [wnA]; omega) | omega | fail) [wkA, retV, stabOk, dC, ev, fillD, pickCells, putAt, bnd, slD, List.getElem?_cons_zero, List.getElem?_cons_succ, dR.eq_20, Mem.cell, Mem.row, wmA, t4]
            refine SK_ap (ob := ob) (cs := out.flatMap cellP) (n := out.length) ((hM _ _ _).push _) (by simp [wkA, retV, stabOk, dC, ev, fillD, pickCells, putAt, bnd, slD, List.getElem?_cons_zero, List.getElem?_cons_succ, dR.eq_20, t4]) (ys := cellP (t, a)) (by simp -implicitDefEqProofs (disch := first | assumption | (simp only [wnA]; done) | (simp only [wnA]; omega) | omega | fail) [wkA, retV, stabOk, dC, ev, fillD, pickCells, putAt, bnd, slD, List.getElem?_cons_zero, List.getElem?_cons_succ, dR.eq_20, elemsV, Mem.cell, Mem.row, wmA, cellP, Tk.cells]) (k := 1) (by simp [wkA, retV, stabOk, dC, ev, fillD, pickCells, putAt, bnd, slD, List.getElem?_cons_zero, List.getElem?_cons_succ, dR.eq_20]) (by simp) (by simp [oneC, cellP, Tk.cells]) (by omega) (by simp only [maxLen]; omega) (by simp [cellP, Tk.cells]) ?_
            simp -implicitDefEqProofs (disch := first | assumption | (simp only [wnA]; done) | (simp only [wnA]; omega) | omega | fail) [wkA, retV, stabOk, dC, ev, fillD, pickCells, putAt, bnd, slD, List.getElem?_cons_zero, List.getElem?_cons_succ, dR.eq_20, Mem.cell, Mem.row, wmA, w2, t5]
            refine hK (k - n) _ _ (by omega) ?_
            refine ⟨a + n, out ++ [(t, a)], some (m1.next + 1 + 1), by omega, ((((oM _ _ _).push _).kill h7).push _), by simp [t0], by simp, by simp, ?_, ?_, by simp; omega, ?_⟩
            · have e1 : (out ++ [(t, a)]).flatMap cellP = out.flatMap cellP ++ cellP (t, a) := by simp
              have e2 : (out ++ [(t, a)]).length = out.length + 1 := by simp
              rw [e1, e2]
              exact SlO.new (by rw [List.length_append, hl, cellP_len]; omega)
            · intro i hi
              have := h2.1; have := o1.1
              simp at hi; omega
            · rw [hc, cutL_some hnb h35 hn, preC_pre, ← hd, List.drop_drop]
end Go.Proofs.YtilknkpaghihhaaDoor.Ab
