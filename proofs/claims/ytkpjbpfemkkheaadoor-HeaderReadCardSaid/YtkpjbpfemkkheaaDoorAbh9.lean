/- What a batch says of a file is what the document says, and it is read of it: the law. -/
import Derived.Test.YtkpjbpfemkkheaaDoorAbz
import Derived.Test.YtkpjbpfemkkheaaDoorAbh8
set_option linter.unusedVariables false
set_option linter.unusedSimpArgs false
namespace Go.Proofs.YtkpjbpfemkkheaaDoor.Ab
open Go Go.RowKit
set_option maxHeartbeats 1000000
set_option maxRecDepth 100000

/-- The law's own digits of a number. -/
theorem dig_sub : ∀ k : Fin 10, (ByteArray.mk #[48, 49, 50, 51, 52, 53, 54, 55, 56, 57]).extract k.val (k.val + 1) = ⟨⟨[digC k.val]⟩⟩ := by decide +kernel
theorem c_ldig {w0 : World} {B : Nat} (hB : B = 8 ∨ B = 10) : ∀ (n : Nat) {m : Mem} {Q : Value → Mem → Prop}, n ≤ 9223372036854775807 → Q (.string ⟨⟨digs B n⟩⟩) m → AbC Tryd.prog w0 27 [.int .i64 (n : Int), .int .i64 (B : Int)] m Q := by
  intro n
  induction n using Nat.strongRecOn with
  | _ n ih =>
    intro m Q hn hq
    refine AbC_fn ok27 (by simp) ?_
    have hB0 : (B : Int) ≠ 0 := by omega
    simp -implicitDefEqProofs (disch := first | assumption | (simp only [wnA]; done) | (simp only [wnA]; omega) | omega | fail) [rc27, ro27, wkA, retV, stabOk, dC, ev, fillD, pickCells, putAt, bnd, slD, List.getElem?_cons_zero, List.getElem?_cons_succ, dR.eq_20, Mem.cell, Mem.row, wmA]
    by_cases h : n < B
    · have hi : (n : Int) < (B : Int) := by omega
      have w1 : IntKind.i64.wrap ((n : Int) + 1) = (n : Int) + 1 := w64 (by omega)
      have hx := dig_sub ⟨n, by omega⟩
      simp only at hx
      have hz : (ByteArray.mk #[48, 49, 50, 51, 52, 53, 54, 55, 56, 57]).size = 10 := rfl
      have e1 : (0 : Int) ≤ (n : Int) + 1 ∧ (n : Int) + 1 ≤ 10 := by omega
      have e2 : (n : Int) ≤ (n : Int) + 1 := by omega
      have e3 : ((n : Int) + 1).toNat = n + 1 := by omega
      rw [digs_lt h] at hq
      simp -implicitDefEqProofs (disch := first | assumption | (simp only [wnA]; done) | (simp only [wnA]; omega) | omega | fail) [wkA, retV, stabOk, dC, ev, fillD, pickCells, putAt, bnd, slD, List.getElem?_cons_zero, List.getElem?_cons_succ, dR.eq_20, Mem.cell, Mem.row, wmA, h, hi, w1, hz, e1, e2, e3, hx]
      exact hq
    · have hi : ¬ (n : Int) < (B : Int) := by omega
      have q1 : (n : Int).tdiv (B : Int) = ((n / B : Nat) : Int) := by rw [Int.tdiv_eq_ediv_of_nonneg (by omega)]; omega
      have q2 : (n : Int).tmod (B : Int) = ((n % B : Nat) : Int) := by rw [Int.tmod_eq_emod_of_nonneg (by omega)]; omega
      have h1 : n / B < n := Nat.div_lt_self (by omega) (by omega)
      have h2 : n % B < B := Nat.mod_lt _ (by omega)
      have lh := digs_64 (b := B) (n := n) (by omega) (by omega)
      rw [digs_ge (by omega) (by omega)] at hq lh
      have i1 := @ih (n / B) h1 m
      have i2 := @ih (n % B) (by omega) m
      rw [digs_lt h2] at i2
      generalize n / B = q at *
      generalize n % B = r at *
      have w2 : IntKind.i64.wrap (q : Int) = (q : Int) := w64 (by omega)
      simp -implicitDefEqProofs (disch := first | assumption | (simp only [wnA]; done) | (simp only [wnA]; omega) | omega | fail) [wkA, retV, stabOk, dC, ev, fillD, pickCells, putAt, bnd, slD, List.getElem?_cons_zero, List.getElem?_cons_succ, dR.eq_20, Mem.cell, Mem.row, wmA, h, hi, rc27_0, dBin_quo, dBin_rem, hB0, q1, q2, w2]
      refine i1 (by omega) ?_
      simp -implicitDefEqProofs (disch := first | assumption | (simp only [wnA]; done) | (simp only [wnA]; omega) | omega | fail) [wkA, retV, stabOk, dC, ev, fillD, pickCells, putAt, bnd, slD, List.getElem?_cons_zero, List.getElem?_cons_succ, dR.eq_20, Mem.cell, Mem.row, wmA]
      refine i2 (by omega) ?_
      simp only [List.length_append] at lh
      have hadd : dBin .add (.string ⟨⟨digs B q⟩⟩) (.string ⟨⟨[digC r]⟩⟩) = some (.string ⟨⟨digs B q ++ [digC r]⟩⟩) := by
        rw [dBin_sadd (by show (digs B q).length + [digC r].length ≤ _; omega), ba_app]
      simp -implicitDefEqProofs (disch := first | assumption | (simp only [wnA]; done) | (simp only [wnA]; omega) | omega | fail) [wkA, retV, stabOk, dC, ev, fillD, pickCells, putAt, bnd, slD, List.getElem?_cons_zero, List.getElem?_cons_succ, dR.eq_20, Mem.cell, Mem.row, wmA, hadd]
      exact hq
/-- The law's own: what may be told. -/
theorem c_lmay {w0 : World} {m : Mem} {f : Fl} {Q : Value → Mem → Prop} (hf : f.ok) (hq : ∀ m', Old m m' → Q (.bool (mayB f)) m') : AbC Tryd.prog w0 17 [f.v] m Q := by
  refine AbC_fn ok17 (by simp) ?_
  obtain ⟨nm, sz, ti, mo⟩ := f
  simp only [Fl.v, Fl.ok] at *
  simp -implicitDefEqProofs (disch := first | assumption | (simp only [wnA]; done) | (simp only [wnA]; omega) | omega | fail) [rc17, ro17, wkA, retV, stabOk, dC, ev, fillD, pickCells, putAt, bnd, slD, List.getElem?_cons_zero, List.getElem?_cons_succ, dR.eq_20, Mem.cell, Mem.row, wmA]
  refine c_name hf ?_
  have hq' := fun b (h : mayB ⟨nm, sz, ti, mo⟩ = b) => h ▸ hq (m.push (.own [.string nm, .int .i64 sz, .int .i64 ti, .int .i64 mo] 25)) ((Old.refl m).push _)
  simp only [mayB] at hq'
  cases hn : nameB nm with
  | false =>
    simp -implicitDefEqProofs (disch := first | assumption | (simp only [wnA]; done) | (simp only [wnA]; omega) | omega | fail) [wkA, retV, stabOk, dC, ev, fillD, pickCells, putAt, bnd, slD, List.getElem?_cons_zero, List.getElem?_cons_succ, dR.eq_20, Mem.cell, Mem.row, wmA]
    exact hq' _ (by simp [hn])
  | true =>
    by_cases h1 : 0 ≤ sz
    · by_cases h2 : sz ≤ 8192
      · by_cases h3 : 0 ≤ ti
        · by_cases h4 : ti < 4294967296
          · by_cases h5 : 0 ≤ mo
            · simp -implicitDefEqProofs (disch := first | assumption | (simp only [wnA]; done) | (simp only [wnA]; omega) | omega | fail) [wkA, retV, stabOk, dC, ev, fillD, pickCells, putAt, bnd, slD, List.getElem?_cons_zero, List.getElem?_cons_succ, dR.eq_20, Mem.cell, Mem.row, wmA, h1, h2, h3, h4, h5]
              exact hq' _ (by simp [hn, h1, h2, h3, h4, h5])
            · simp -implicitDefEqProofs (disch := first | assumption | (simp only [wnA]; done) | (simp only [wnA]; omega) | omega | fail) [wkA, retV, stabOk, dC, ev, fillD, pickCells, putAt, bnd, slD, List.getElem?_cons_zero, List.getElem?_cons_succ, dR.eq_20, Mem.cell, Mem.row, wmA, h1, h2, h3, h4, h5]
              exact hq' _ (by simp [hn, h1, h2, h3, h4, h5])
          · simp -implicitDefEqProofs (disch := first | assumption | (simp only [wnA]; done) | (simp only [wnA]; omega) | omega | fail) [wkA, retV, stabOk, dC, ev, fillD, pickCells, putAt, bnd, slD, List.getElem?_cons_zero, List.getElem?_cons_succ, dR.eq_20, Mem.cell, Mem.row, wmA, h1, h2, h3, h4]
            exact hq' _ (by simp [hn, h1, h2, h3, h4])
        · simp -implicitDefEqProofs (disch := first | assumption | (simp only [wnA]; done) | (simp only [wnA]; omega) | omega | fail) [wkA, retV, stabOk, dC, ev, fillD, pickCells, putAt, bnd, slD, List.getElem?_cons_zero, List.getElem?_cons_succ, dR.eq_20, Mem.cell, Mem.row, wmA, h1, h2, h3]
          exact hq' _ (by simp [hn, h1, h2, h3])
      · simp -implicitDefEqProofs (disch := first | assumption | (simp only [wnA]; done) | (simp only [wnA]; omega) | omega | fail) [wkA, retV, stabOk, dC, ev, fillD, pickCells, putAt, bnd, slD, List.getElem?_cons_zero, List.getElem?_cons_succ, dR.eq_20, Mem.cell, Mem.row, wmA, h1, h2]
        exact hq' _ (by simp [hn, h1, h2])
    · simp -implicitDefEqProofs (disch := first | assumption | (simp only [wnA]; done) | (simp only [wnA]; omega) | omega | fail) [wkA, retV, stabOk, dC, ev, fillD, pickCells, putAt, bnd, slD, List.getElem?_cons_zero, List.getElem?_cons_succ, dR.eq_20, Mem.cell, Mem.row, wmA, h1]
      exact hq' _ (by simp [hn, h1])


theorem addS (a b : List UInt8) (h : a.length + b.length ≤ 9223372036854775807) : dBin .add (.string ⟨⟨a⟩⟩) (.string ⟨⟨b⟩⟩) = some (.string ⟨⟨a ++ b⟩⟩) := by
  rw [dBin_sadd (by show a.length + b.length ≤ _; exact h), ba_app]
theorem c_made {w0 : World} {m : Mem} {f : Fl} {Q : Value → Mem → Prop} (hf : mayB f = true) (hq : ∀ m', Old m m' → Q (.string ⟨⟨padL (tellL f)⟩⟩) m') : AbC Tryd.prog w0 15 [f.v] m Q := by
  refine AbC_fn ok15 (by simp) ?_
  have tl := tell_len hf
  obtain ⟨⟨⟨N⟩⟩, sz, ti, mo⟩ := f
  have hmm := hf
  simp only [mayB, Bool.and_eq_true, decide_eq_true_eq] at hmm
  obtain ⟨-, b2, b3, b4, b5, b6, b7⟩ := hmm
  obtain ⟨k1, rfl⟩ := Int.eq_ofNat_of_zero_le b2
  obtain ⟨k2, rfl⟩ := Int.eq_ofNat_of_zero_le b4
  obtain ⟨k3, rfl⟩ := Int.eq_ofNat_of_zero_le b6
  have ht : tellL ⟨⟨⟨N⟩⟩, k1, k2, k3⟩ = N ++ [0] ++ digs 10 k1 ++ [32] ++ digs 8 k2 ++ [32] ++ digs 8 k3 := by
    unfold tellL
    rw [numS_ofNat, numS_ofNat, numS_ofNat]
    simp
  have hpd : padL (tellL ⟨⟨⟨N⟩⟩, k1, k2, k3⟩) = tellL ⟨⟨⟨N⟩⟩, k1, k2, k3⟩ ++ List.replicate (128 - (tellL ⟨⟨⟨N⟩⟩, k1, k2, k3⟩).length) 0 := rfl
  rw [hpd] at hq
  simp only [Fl.v]
  rw [ht] at hq tl
  have d1 := fun (m1 : Mem) (Q1 : Value → Mem → Prop) => @c_ldig w0 10 (.inr rfl) k1 m1 Q1
  have d2 := fun (m1 : Mem) (Q1 : Value → Mem → Prop) => @c_ldig w0 8 (.inl rfl) k2 m1 Q1
  have d3 := fun (m1 : Mem) (Q1 : Value → Mem → Prop) => @c_ldig w0 8 (.inl rfl) k3 m1 Q1
  clear ht hpd hf
  generalize digs 10 k1 = D1 at *
  generalize digs 8 k2 = D2 at *
  generalize digs 8 k3 = D3 at *
  have tl2 := tl
  simp only [List.length_append, List.length_cons, List.length_nil] at tl2
  have a1 : dBin .add (.string ⟨⟨N⟩⟩) (.string ⟨#[0]⟩) = some (.string ⟨⟨N ++ [0]⟩⟩) := addS N [0] (by simp; omega)
  have a2 := addS (N ++ [0]) D1 (by simp; omega)
  have a3 : dBin .add (.string ⟨⟨N ++ [0] ++ D1⟩⟩) (.string ⟨#[32]⟩) = some (.string ⟨⟨N ++ [0] ++ D1 ++ [32]⟩⟩) := addS _ [32] (by simp; omega)
  have a4 := addS (N ++ [0] ++ D1 ++ [32]) D2 (by simp; omega)
  have a5 : dBin .add (.string ⟨⟨N ++ [0] ++ D1 ++ [32] ++ D2⟩⟩) (.string ⟨#[32]⟩) = some (.string ⟨⟨N ++ [0] ++ D1 ++ [32] ++ D2 ++ [32]⟩⟩) := addS _ [32] (by simp; omega)
  have a6 := addS (N ++ [0] ++ D1 ++ [32] ++ D2 ++ [32]) D3 (by simp; omega)
  have a7 := addS (N ++ [0] ++ D1 ++ [32] ++ D2 ++ [32] ++ D3) (List.replicate (128 - (N ++ [0] ++ D1 ++ [32] ++ D2 ++ [32] ++ D3).length) 0) (by rw [List.length_replicate]; omega)
  generalize hS1 : N ++ [0] = S1 at *
  generalize hS2 : S1 ++ D1 = S2 at *
  generalize hS3 : S2 ++ [32] = S3 at *
  generalize hS4 : S3 ++ D2 = S4 at *
  generalize hS5 : S4 ++ [32] = S5 at *
  generalize hS6 : S5 ++ D3 = S6 at *
  have hz : (ByteArray.mk ⟨S6⟩).size = S6.length := rfl
  have w1 : IntKind.i64.wrap (128 - (S6.length : Int)) = ((128 - S6.length : Nat) : Int) := by rw [w64 (by omega)]; omega
  simp -implicitDefEqProofs (disch := first | assumption | (simp only [wnA]; done) | (simp only [wnA]; omega) | omega | fail) [rc15, ro15, wkA, retV, stabOk, dC, ev, fillD, pickCells, putAt, bnd, slD, List.getElem?_cons_zero, List.getElem?_cons_succ, dR.eq_20, Mem.cell, Mem.row, wmA, a1]
  refine d1 _ _ (by omega) ?_
  simp -implicitDefEqProofs (disch := first | assumption | (simp only [wnA]; done) | (simp only [wnA]; omega) | omega | fail) [wkA, retV, stabOk, dC, ev, fillD, pickCells, putAt, bnd, slD, List.getElem?_cons_zero, List.getElem?_cons_succ, dR.eq_20, Mem.cell, Mem.row, wmA, a1, a2, a3]
  refine d2 _ _ (by omega) ?_
  simp -implicitDefEqProofs (disch := first | assumption | (simp only [wnA]; done) | (simp only [wnA]; omega) | omega | fail) [wkA, retV, stabOk, dC, ev, fillD, pickCells, putAt, bnd, slD, List.getElem?_cons_zero, List.getElem?_cons_succ, dR.eq_20, Mem.cell, Mem.row, wmA, a1, a2, a3, a4, a5]
  refine d3 _ _ (by omega) ?_
  simp -implicitDefEqProofs (disch := first | assumption | (simp only [wnA]; done) | (simp only [wnA]; omega) | omega | fail) [wkA, retV, stabOk, dC, ev, fillD, pickCells, putAt, bnd, slD, List.getElem?_cons_zero, List.getElem?_cons_succ, dR.eq_20, Mem.cell, Mem.row, wmA, a1, a2, a3, a4, a5, a6, hz, w1]
  have hK : 128 - S6.length ≤ 128 := by omega
  generalize 128 - S6.length = K at *
  rw [SK_mks (a := K) (by simp [wkA, retV, stabOk, dC, ev, fillD, pickCells, putAt, bnd, slD, List.getElem?_cons_zero, List.getElem?_cons_succ, dR.eq_20]) (by simp [wkA, retV, stabOk, dC, ev, fillD, pickCells, putAt, bnd, slD, List.getElem?_cons_zero, List.getElem?_cons_succ, dR.eq_20]) (by omega) (by simp only [maxLen]; omega)]
  have e : List.replicate K (Value.int .u8 0) = (List.replicate K (0 : UInt8)).map byteV := by rw [List.map_replicate]; rfl
  rw [e]
  have hZ : (List.replicate K (0 : UInt8)).length = K := by simp
  generalize List.replicate K (0 : UInt8) = Zs at *
  have hb : bstr ((m.push (.own [.string ⟨⟨N⟩⟩, .int .i64 k1, .int .i64 k2, .int .i64 k3] 25)).push (.own (Zs.map byteV) 5)) (.slice (some ⟨m.next + 1, 0, none⟩) K 1) = some (.string ⟨⟨Zs⟩⟩) := bstr_own (Mem.push_at _ _ (by simp)) hZ
  simp -implicitDefEqProofs (disch := first | assumption | (simp only [wnA]; done) | (simp only [wnA]; omega) | omega | fail) [wkA, retV, stabOk, dC, ev, fillD, pickCells, putAt, bnd, slD, List.getElem?_cons_zero, List.getElem?_cons_succ, dR.eq_20, Mem.cell, Mem.row, wmA, hb, a7]
  exact hq _ (((Old.refl m).push _).push _)
end Go.Proofs.YtkpjbpfemkkheaaDoor.Ab
