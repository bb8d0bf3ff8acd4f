/- A text's number: strconv.ParseUint in the bases 8, 10, 16, of 32 and 64 bits (over Ab21). -/
import Derived.Test.YtgfkjldohilmkaaDoorAbz
import Derived.Test.YtgfkjldohilmkaaDoorAbi1
set_option linter.unusedVariables false
set_option linter.unusedSimpArgs false
namespace Go.Proofs.YtgfkjldohilmkaaDoor.Ab
open Go Go.RowKit
set_option maxHeartbeats 4000000
set_option maxRecDepth 100000

def lowN (c : UInt8) : Nat := Nat.lor c.toNat 32
def dgt (c : UInt8) : Option Nat := if 48 ≤ c.toNat ∧ c.toNat ≤ 57 then some (c.toNat - 48) else if 97 ≤ lowN c ∧ lowN c ≤ 122 then some (lowN c - 97 + 10) else none
def puStep (B M n : Nat) (c : UInt8) : Option Nat := match dgt c with
  | some d => if d < B ∧ n * B + d ≤ M then some (n * B + d) else none
  | none => none
/-- What a text's number is, up to M. -/
def puL (B M : Nat) : Nat → List UInt8 → Option Nat
  | n, [] => some n
  | n, c :: l => match puStep B M n c with
    | some n' => puL B M n' l
    | none => none
theorem lowN_lt (c : UInt8) : lowN c < 256 := by
  have h1 : c.toNat < 2 ^ 8 := c.toNat_lt
  have : c.toNat ||| 32 < 2 ^ 8 := Nat.or_lt_two_pow h1 (by omega)
  exact this
theorem dOr32 (c : UInt8) : dBin .or (.int .u8 (c.toNat : Int)) (.int .u8 32) = some (.int .u8 ((lowN c : Nat) : Int)) := by
  have h1 : c.toNat < 256 := c.toNat_lt
  have h2 := binI_eq (op := .or) (k := .u8) (a := Int.ofNat c.toNat) (b := Int.ofNat 32) (v := .int .u8 (IntKind.u8.wrap (Int.ofNat (Nat.lor c.toNat 32)))) (by
    simp only [binI, bitI]
    rw [blt_true.2 (show c.toNat < kTop .u8 by simpa [kTop] using h1), blt_true.2 (show 32 < kTop .u8 by simp [kTop])]
    simp only [wrapF_eq])
  have h3 : IntKind.u8.wrap (Int.ofNat (Nat.lor c.toNat 32)) = ((lowN c : Nat) : Int) := by
    have := lowN_lt c
    rw [IntKind.wrap_u8]
    show ((lowN c : Nat) : Int) % 256 = _
    omega
  rw [h3] at h2
  exact h2
theorem c_lower {w0 : World} {m : Mem} {c : UInt8} {Q : Value → Mem → Prop} (hq : Q (.int .u8 ((lowN c : Nat) : Int)) m) : AbC Tryd.prog w0 76 [.int .u8 (c.toNat : Int)] m Q := by
  refine AbC_fn ok76 (by simp) ?_
  simp -implicitDefEqProofs (disch := first | assumption | (simp only [wnA]; done) | (simp only [wnA]; omega) | omega | fail) [rc76, ro76, wkA, retV, stabOk, dC, ev, fillD, pickCells, putAt, bnd, slD, List.getElem?_cons_zero, List.getElem?_cons_succ, dR_sl, Mem.cell, Mem.row, wmA, dOr32]
  exact hq

theorem w_PUtail {w0 : World} {Q : AQ} {ts : Fr} {m : Mem} {B M n d C : Nat} (hC : 18446744073709551616 ≤ C * B ∧ (C - 1) * B ≤ 18446744073709551615 ∧ 1 ≤ C) (hB : 2 ≤ B ∧ B ≤ 36) (hM : n ≤ M ∧ M ≤ 18446744073709551615) (hd : d < 256)
    (t1 : ts 1 = .int .i64 (B : Int)) (t10 : ts 10 = .int .u64 (C : Int)) (t11 : ts 11 = .int .u64 (M : Int)) (t13 : ts 13 = .int .u64 (n : Int)) (t16 : ts 16 = .int .u8 (d : Int))
    (he : ∀ ts' v c, ts' 6 = .int .u64 v → ts' 7 = .iface 147 (.int .i64 c) → (c = 1 ∨ c = 2) → (c = 1 → v = (M : Int)) → ¬ (d < B ∧ n * B + d ≤ M) → Q .ret ts' m)
    (hq : ∀ ts', ts' 1 = ts 1 → ts' 8 = ts 8 → ts' 10 = ts 10 → ts' 11 = ts 11 → ts' 12 = ts 12 → ts' 99 = ts 99 → ts' 100 = ts 100 → ts' 101 = ts 101 → ts' 13 = .int .u64 ((n * B + d : Nat) : Int) → d < B → n * B + d ≤ M → Q .normal ts' m) :
    AbW Tryd.prog w0 rc73_2 Q ts m := by
  have wB8 : IntKind.u8.wrap (B : Int) = (B : Int) := by rw [IntKind.wrap_u8]; omega
  have wB64 : IntKind.u64.wrap (B : Int) = (B : Int) := IntWalk.u64_in _ (by omega)
  have wd64 : IntKind.u64.wrap (d : Int) = (d : Int) := IntWalk.u64_in _ (by omega)
  simp -implicitDefEqProofs (disch := first | assumption | (simp only [wnA]; done) | (simp only [wnA]; omega) | omega | fail) [rc73_2, wkA, retV, stabOk, dC, ev, fillD, pickCells, putAt, bnd, slD, List.getElem?_cons_zero, List.getElem?_cons_succ, dR_sl, Mem.cell, Mem.row, wmA, t1, t16, wB8]
  by_cases h1 : B ≤ d
  · simp -implicitDefEqProofs (disch := first | assumption | (simp only [wnA]; done) | (simp only [wnA]; omega) | omega | fail) [wkA, retV, stabOk, dC, ev, fillD, pickCells, putAt, bnd, slD, List.getElem?_cons_zero, List.getElem?_cons_succ, dR_sl, Mem.cell, Mem.row, wmA, h1]
    exact he _ 0 2 (by simp) (by simp) (.inr rfl) (fun h => absurd h (by decide)) (by omega)
  · simp -implicitDefEqProofs (disch := first | assumption | (simp only [wnA]; done) | (simp only [wnA]; omega) | omega | fail) [wkA, retV, stabOk, dC, ev, fillD, pickCells, putAt, bnd, slD, List.getElem?_cons_zero, List.getElem?_cons_succ, dR_sl, Mem.cell, Mem.row, wmA, h1, rc73_1, t10, t13]
    by_cases h2 : C ≤ n
    · simp -implicitDefEqProofs (disch := first | assumption | (simp only [wnA]; done) | (simp only [wnA]; omega) | omega | fail) [wkA, retV, stabOk, dC, ev, fillD, pickCells, putAt, bnd, slD, List.getElem?_cons_zero, List.getElem?_cons_succ, dR_sl, Mem.cell, Mem.row, wmA, h2, t11]
      refine he _ (M : Int) 1 (by simp) (by simp) (.inl rfl) (fun _ => rfl) ?_
      intro h3
      have h5 : C * B ≤ n * B := Nat.mul_le_mul_right _ h2
      omega
    · have h4 : n ≤ C - 1 := by omega
      have h5 : n * B ≤ (C - 1) * B := Nat.mul_le_mul_right _ h4
      have h6 := hC.2.1
      have w1 : IntKind.u64.wrap ((n : Int) * (B : Int)) = ((n * B : Nat) : Int) := by
        rw [← Int.natCast_mul]; exact IntWalk.u64_in _ (by omega)
      have w1' : IntKind.u64.wrap ((n * B : Nat) : Int) = ((n * B : Nat) : Int) := IntWalk.u64_in _ (by omega)
      generalize hX : n * B = X at *
      simp -implicitDefEqProofs (disch := first | assumption | (simp only [wnA]; done) | (simp only [wnA]; omega) | omega | fail) [wkA, retV, stabOk, dC, ev, fillD, pickCells, putAt, bnd, slD, List.getElem?_cons_zero, List.getElem?_cons_succ, dR_sl, Mem.cell, Mem.row, wmA, h2, rc73_0, t1, t13, t16, wB64, w1, wd64]
      by_cases h7 : X + d ≤ 18446744073709551615
      · have w2 : IntKind.u64.wrap ((X : Int) + (d : Int)) = ((X + d : Nat) : Int) := by rw [IntWalk.u64_in _ (by omega)]; omega
        have h8 : ¬ X + d < X := by omega
        by_cases h9 : X + d ≤ M
        · have h10 : ¬ M < X + d := by omega
          have h11 : ¬ ((M : Int) < (X : Int) + (d : Int)) := by omega
          have h12 : ¬ ((X : Int) + (d : Int) < (X : Int)) := by omega
          simp -implicitDefEqProofs (disch := first | assumption | (simp only [wnA]; done) | (simp only [wnA]; omega) | omega | fail) [wkA, retV, stabOk, dC, ev, fillD, pickCells, putAt, bnd, slD, List.getElem?_cons_zero, List.getElem?_cons_succ, dR_sl, Mem.cell, Mem.row, wmA, w2, h8, h10, h11, h12, t11]
          exact hq _ (by simp) (by simp) (by simp) (by simp) (by simp) (by simp) (by simp) (by simp) (by simp) (by omega) h9
        · have h10 : M < X + d := by omega
          have h11 : (M : Int) < (X : Int) + (d : Int) := by omega
          have h12 : ¬ ((X : Int) + (d : Int) < (X : Int)) := by omega
          simp -implicitDefEqProofs (disch := first | assumption | (simp only [wnA]; done) | (simp only [wnA]; omega) | omega | fail) [wkA, retV, stabOk, dC, ev, fillD, pickCells, putAt, bnd, slD, List.getElem?_cons_zero, List.getElem?_cons_succ, dR_sl, Mem.cell, Mem.row, wmA, w2, h8, h10, h11, h12, t11]
          exact he _ (M : Int) 1 (by simp) (by simp) (.inl rfl) (fun _ => rfl) (by omega)
      · obtain ⟨Y, hY⟩ := Nat.exists_eq_add_of_le (show 18446744073709551616 ≤ X + d by omega)
        have h12 : (Y : Int) < (X : Int) := by omega
        have h8 : Y < X := by omega
        have w2 : IntKind.u64.wrap ((X : Int) + (d : Int)) = (Y : Int) := by
          have e : (X : Int) + (d : Int) = 18446744073709551616 + (Y : Int) := by omega
          rw [e]
          simp only [IntKind.wrap, IntKind.bits, IntKind.signed]
          simp
          omega
        simp -implicitDefEqProofs (disch := first | assumption | (simp only [wnA]; done) | (simp only [wnA]; omega) | omega | fail) [wkA, retV, stabOk, dC, ev, fillD, pickCells, putAt, bnd, slD, List.getElem?_cons_zero, List.getElem?_cons_succ, dR_sl, Mem.cell, Mem.row, wmA, w2, h8, h12, t11]
        exact he _ (M : Int) 1 (by simp) (by simp) (.inl rfl) (fun _ => rfl) (by omega)

theorem w_PUloop {w0 : World} {Q : AQ} {ts : Fr} {m : Mem} {B M bits C : Nat} {s : ByteArray} (hC : 18446744073709551616 ≤ C * B ∧ (C - 1) * B ≤ 18446744073709551615 ∧ 1 ≤ C) (hB : B = 8 ∨ B = 10 ∨ B = 16) (hM : (bits = 32 ∧ M = 4294967295) ∨ (bits = 64 ∧ M = 18446744073709551615)) (hs : s.size ≤ 140737488355328)
    (t0 : ts 0 = .string s) (t1 : ts 1 = .int .i64 (B : Int)) (t2 : ts 2 = .int .i64 (bits : Int)) (t8 : ts 8 = .bool false) (t10 : ts 10 = .int .u64 (C : Int))
    (he : ∀ ts' m' v c, Old m m' → ts' 6 = .int .u64 v → ts' 7 = .iface 147 (.int .i64 c) → (c = 1 ∨ c = 2) → (c = 1 → v = (M : Int)) → puL B M 0 s.data.toList = none → Q .ret ts' m')
    (hq : ∀ ts' m' v, Old m m' → ts' 6 = .int .u64 ((v : Nat) : Int) → ts' 7 = .nilIface → puL B M 0 s.data.toList = some v → Q .ret ts' m') :
    AbW Tryd.prog w0 rc73_7 Q ts m := by
  have hBr : 2 ≤ B ∧ B ≤ 36 := by omega
  have hMr : M ≤ 18446744073709551615 := by omega
  have sh : dBin .shl (.int .u64 1) (.int .u64 (bits : Int)) = some (.int .u64 (IntKind.u64.wrap ((M : Int) + 1))) := by
    rcases hM with ⟨rfl, rfl⟩ | ⟨rfl, rfl⟩ <;> rfl
  have wbits : IntKind.u64.wrap (bits : Int) = (bits : Int) := IntWalk.u64_in _ (by omega)
  have wM : IntKind.u64.wrap (IntKind.u64.wrap ((M : Int) + 1) - 1) = (M : Int) := by
    rcases hM with ⟨rfl, rfl⟩ | ⟨rfl, rfl⟩ <;> rfl
  simp -implicitDefEqProofs (disch := first | assumption | (simp only [wnA]; done) | (simp only [wnA]; omega) | omega | fail) [rc73_7, wkA, retV, stabOk, dC, ev, fillD, pickCells, putAt, bnd, slD, List.getElem?_cons_zero, List.getElem?_cons_succ, dR_sl, Mem.cell, Mem.row, wmA, t0, t2, sh, wbits, wM]
  rw [SK_s2b (s := s) (by simp [wkA, retV, stabOk, dC, ev, fillD, pickCells, putAt, bnd, slD, List.getElem?_cons_zero, List.getElem?_cons_succ, dR_sl]) hs]
  simp -implicitDefEqProofs (disch := first | assumption | (simp only [wnA]; done) | (simp only [wnA]; omega) | omega | fail) [wkA, retV, stabOk, dC, ev, fillD, pickCells, putAt, bnd, slD, List.getElem?_cons_zero, List.getElem?_cons_succ, dR_sl, Mem.cell, Mem.row, wmA]
  have o1 : Old m (m.push (.own (s.data.toList.map byteV) 5)) := (Old.refl m).push _
  have g1 : (m.push (.own (s.data.toList.map byteV) 5)).get m.next = .own (s.data.toList.map byteV) 5 := by simp
  generalize m.push (.own (s.data.toList.map byteV) 5) = m1 at *
  have hsz : s.data.toList.length = s.size := by simp
  refine LoopW_of (fun k ts' m' => ∃ j n, j + k = s.size ∧ m' = m1 ∧ ts' 1 = .int .i64 (B : Int) ∧ ts' 8 = .bool false ∧ ts' 10 = .int .u64 (C : Int) ∧ ts' 11 = .int .u64 (M : Int) ∧ ts' 12 = .bool false ∧ ts' 13 = .int .u64 ((n : Nat) : Int) ∧
    ts' 99 = .slice (some ⟨m.next, 0, none⟩) s.size 1 ∧ ts' 100 = .int .i64 (s.size : Nat) ∧ ts' 101 = .int .i64 (j : Nat) ∧ n ≤ M ∧ puL B M 0 s.data.toList = puL B M n (s.data.toList.drop j)) s.size ?_ ?_
  · exact ⟨0, 0, by omega, rfl, by simp [t1], by simp [t8], by simp [t10], by simp, by simp, by simp, by simp, by simp, by simp, by omega, by simp⟩
  · rintro k ts' m2 K ⟨j, n, hj, rfl, s1, s8, s10, s11, s12, s13, s99, s100, s101, hn, hpu⟩ hK
    simp -implicitDefEqProofs (disch := first | assumption | (simp only [wnA]; done) | (simp only [wnA]; omega) | omega | fail) [rc73_4, wkA, retV, stabOk, dC, ev, fillD, pickCells, putAt, bnd, slD, List.getElem?_cons_zero, List.getElem?_cons_succ, dR_sl, Mem.cell, Mem.row, wmA, s100, s101]
    by_cases hjl : j < s.size
    · have hjl' : j < s.data.toList.length := by omega
      obtain ⟨c, hc⟩ : ∃ c, s.data.toList[j] = c := ⟨_, rfl⟩
      have hat : (s.data.toList.map byteV)[j]? = some (byteV c) := by rw [List.getElem?_map, List.getElem?_eq_getElem hjl', hc]; rfl
      obtain ⟨hlt', hat'⟩ := List.getElem?_eq_some_iff.1 hat
      have hdr : s.data.toList.drop j = c :: s.data.toList.drop (j + 1) := by rw [List.drop_eq_getElem_cons hjl', hc]
      have hjw : IntKind.i64.wrap ((j : Int) + 1) = ((j + 1 : Nat) : Int) := by rw [w64 (by omega)]; omega
      have hcl : c.toNat < 256 := c.toNat_lt
      rw [hdr] at hpu
      have bad : puStep B M n c = none → puL B M 0 s.data.toList = none := fun h => by rw [hpu]; simp [puL, h]
      have good : ∀ n', puStep B M n c = some n' → puL B M 0 s.data.toList = puL B M n' (s.data.toList.drop (j + 1)) := fun n' h => by rw [hpu]; simp [puL, h]
      generalize s.data.toList.map byteV = row at *
      have tail : ∀ (ts2 : Fr) (d : Nat), dgt c = some d → d < 256 → ∀ {Q2 : AQ}, (∀ ts' m', Q2 .ret ts' m' = Q .ret ts' m') → (∀ ts', ts' 1 = ts2 1 → ts' 8 = ts2 8 → ts' 10 = ts2 10 → ts' 11 = ts2 11 → ts' 12 = ts2 12 → ts' 99 = ts2 99 → ts' 100 = ts2 100 → ts' 101 = ts2 101 → ts' 13 = .int .u64 ((n * B + d : Nat) : Int) → n * B + d ≤ M → puStep B M n c = some (n * B + d) → Q2 .normal ts' m2) →
          ts2 1 = .int .i64 (B : Int) → ts2 10 = .int .u64 (C : Int) → ts2 11 = .int .u64 (M : Int) → ts2 13 = .int .u64 (n : Int) → ts2 16 = .int .u8 (d : Int) → AbW Tryd.prog w0 rc73_2 Q2 ts2 m2 := by
        intro ts2 d hdg hd Q2 hr hq2 u1 u10 u11 u13 u16
        refine w_PUtail hC hBr ⟨hn, hMr⟩ hd u1 u10 u11 u13 u16 (fun ts' v c' h6 h7 hc' hv' hno => ?_) fun ts' r1 r8 r10 r11 r12 r99 r100 r101 r13 hdB hle => ?_
        · rw [hr]
          refine he ts' m2 v c' o1 h6 h7 hc' hv' (bad ?_)
          simp only [puStep, hdg]
          rw [if_neg hno]
        · exact hq2 ts' r1 r8 r10 r11 r12 r99 r100 r101 r13 hle (by simp only [puStep, hdg]; rw [if_pos ⟨hdB, hle⟩])
      have fin : ∀ (ts' : Fr) (d : Nat), ts' 1 = .int .i64 (B : Int) → ts' 8 = .bool false → ts' 10 = .int .u64 (C : Int) → ts' 11 = .int .u64 (M : Int) → ts' 12 = .bool false → ts' 99 = .slice (some ⟨m.next, 0, none⟩) s.size 1 → ts' 100 = .int .i64 (s.size : Nat) → ts' 101 = .int .i64 ((j + 1 : Nat) : Int) → ts' 13 = .int .u64 ((n * B + d : Nat) : Int) → n * B + d ≤ M → puStep B M n c = some (n * B + d) → K ts' m2 := fun ts' d r1 r8 r10 r11 r12 r99 r100 r101 r13 hle hp =>
        hK (k - 1) ts' m2 (by omega) ⟨j + 1, n * B + d, by omega, rfl, r1, r8, r10, r11, r12, r13, r99, r100, r101, hle, good _ hp⟩
      by_cases h95 : c.toNat = 95
      · have q1 : ((c.toNat : Int) == 95) = true := by simp [h95]
        have q3 : dgt c = none := by
          have hc95 : c = 95 := UInt8.toNat_inj.1 h95
          rw [hc95]; decide
        have q4 : lowN c = 127 := by
          have hc95 : c = 95 := UInt8.toNat_inj.1 h95
          rw [hc95]; decide
        have q5 : (48 : Int) ≤ (c.toNat : Int) := by omega
        have q2 : ¬ (c.toNat : Int) ≤ 57 := by omega
        simp -implicitDefEqProofs (disch := first | assumption | (simp only [wnA]; done) | (simp only [wnA]; omega) | omega | fail) [hjl, rc73_3, wkA, retV, stabOk, dC, ev, fillD, pickCells, putAt, bnd, slD, List.getElem?_cons_zero, List.getElem?_cons_succ, dR_sl, Mem.cell, Mem.row, wmA, s8, s99, s101, sidx_at, g1, hat, hat', byteV, q1, q2, q5]
        refine c_lower ?_
        simp -implicitDefEqProofs (disch := first | assumption | (simp only [wnA]; done) | (simp only [wnA]; omega) | omega | fail) [wkA, retV, stabOk, dC, ev, fillD, pickCells, putAt, bnd, slD, List.getElem?_cons_zero, List.getElem?_cons_succ, dR_sl, Mem.cell, Mem.row, wmA, q4]
        refine c_lower ?_
        simp -implicitDefEqProofs (disch := first | assumption | (simp only [wnA]; done) | (simp only [wnA]; omega) | omega | fail) [wkA, retV, stabOk, dC, ev, fillD, pickCells, putAt, bnd, slD, List.getElem?_cons_zero, List.getElem?_cons_succ, dR_sl, Mem.cell, Mem.row, wmA, q4]
        exact he _ m2 0 2 o1 (by simp) (by simp) (.inr rfl) (fun h => absurd h (by decide)) (bad (by simp [puStep, q3]))
      · have q1 : ((c.toNat : Int) == 95) = false := by simp; omega
        by_cases h48 : 48 ≤ c.toNat ∧ c.toNat ≤ 57
        · have hd : dgt c = some (c.toNat - 48) := by simp [dgt, h48]
          have i48 : (48 : Int) ≤ (c.toNat : Int) ∧ (c.toNat : Int) ≤ 57 := by omega
          have w8 : IntKind.u8.wrap ((c.toNat : Int) - 48) = ((c.toNat - 48 : Nat) : Int) := by rw [IntKind.wrap_u8]; omega
          simp -implicitDefEqProofs (disch := first | assumption | (simp only [wnA]; done) | (simp only [wnA]; omega) | omega | fail) [hjl, rc73_3, wkA, retV, stabOk, dC, ev, fillD, pickCells, putAt, bnd, slD, List.getElem?_cons_zero, List.getElem?_cons_succ, dR_sl, Mem.cell, Mem.row, wmA, s8, s99, s101, sidx_at, g1, hat, hat', byteV, q1, i48, w8]
          refine tail _ (c.toNat - 48) hd (by omega) ?_ ?_ ?_ ?_ ?_ ?_ ?_
          · intro ts3 m3; simp -implicitDefEqProofs (disch := first | assumption | (simp only [wnA]; done) | (simp only [wnA]; omega) | omega | fail) [wkA, retV, stabOk, dC, ev, fillD, pickCells, putAt, bnd, slD, List.getElem?_cons_zero, List.getElem?_cons_succ, dR_sl, Mem.cell, Mem.row, wmA]
          · intro ts3 r1 r8 r10 r11 r12 r99 r100 r101 r13 hle hp
            simp at r1 r8 r10 r11 r12 r99 r100 r101
            simp -implicitDefEqProofs (disch := first | assumption | (simp only [wnA]; done) | (simp only [wnA]; omega) | omega | fail) [wkA, retV, stabOk, dC, ev, fillD, pickCells, putAt, bnd, slD, List.getElem?_cons_zero, List.getElem?_cons_succ, dR_sl, Mem.cell, Mem.row, wmA, r101, s101, hjw]
            exact fin _ (c.toNat - 48) (by simp [r1, s1]) (by simp [r8, s8]) (by simp [r10, s10]) (by simp [r11, s11]) (by simp [r12, s12]) (by simp [r99, s99]) (by simp [r100, s100]) (by simp) (by simp [r13]) hle hp
          · simp [s1]
          · simp [s10]
          · simp [s11]
          · simp [s13]
          · simp
        · by_cases h97 : 97 ≤ lowN c ∧ lowN c ≤ 122
          · have hd : dgt c = some (lowN c - 97 + 10) := by simp only [dgt]; rw [if_neg h48, if_pos h97]
            have w8 : IntKind.u8.wrap (((lowN c : Nat) : Int) - 97) = ((lowN c - 97 : Nat) : Int) := by rw [IntKind.wrap_u8]; omega
            have w8' : IntKind.u8.wrap (((lowN c - 97 : Nat) : Int) + 10) = ((lowN c - 97 + 10 : Nat) : Int) := by rw [IntKind.wrap_u8]; omega
            have i97 : (97 : Int) ≤ ((lowN c : Nat) : Int) ∧ ((lowN c : Nat) : Int) ≤ 122 := by omega
            generalize hlo : lowN c = lo at *
            have cl : ∀ {R : Value → Mem → Prop}, R (.int .u8 ((lo : Nat) : Int)) m2 → AbC Tryd.prog w0 76 [.int .u8 (c.toNat : Int)] m2 R := fun h => c_lower (by rw [hlo]; exact h)
            generalize hE : lo - 97 = e at *
            by_cases h48a : (48 : Int) ≤ (c.toNat : Int)
            · have h57 : ¬ (c.toNat : Int) ≤ 57 := by omega
              simp -implicitDefEqProofs (disch := first | assumption | (simp only [wnA]; done) | (simp only [wnA]; omega) | omega | fail) [hjl, rc73_3, wkA, retV, stabOk, dC, ev, fillD, pickCells, putAt, bnd, slD, List.getElem?_cons_zero, List.getElem?_cons_succ, dR_sl, Mem.cell, Mem.row, wmA, s8, s99, s101, sidx_at, g1, hat, hat', byteV, q1, h48a, h57]
              refine cl ?_
              simp -implicitDefEqProofs (disch := first | assumption | (simp only [wnA]; done) | (simp only [wnA]; omega) | omega | fail) [wkA, retV, stabOk, dC, ev, fillD, pickCells, putAt, bnd, slD, List.getElem?_cons_zero, List.getElem?_cons_succ, dR_sl, Mem.cell, Mem.row, wmA, i97]
              refine cl ?_
              simp -implicitDefEqProofs (disch := first | assumption | (simp only [wnA]; done) | (simp only [wnA]; omega) | omega | fail) [wkA, retV, stabOk, dC, ev, fillD, pickCells, putAt, bnd, slD, List.getElem?_cons_zero, List.getElem?_cons_succ, dR_sl, Mem.cell, Mem.row, wmA, i97]
              refine cl ?_
              simp -implicitDefEqProofs (disch := first | assumption | (simp only [wnA]; done) | (simp only [wnA]; omega) | omega | fail) [wkA, retV, stabOk, dC, ev, fillD, pickCells, putAt, bnd, slD, List.getElem?_cons_zero, List.getElem?_cons_succ, dR_sl, Mem.cell, Mem.row, wmA, w8, w8']
              refine tail _ (e + 10) hd (by omega) ?_ ?_ ?_ ?_ ?_ ?_ ?_
              · intro ts3 m3; simp -implicitDefEqProofs (disch := first | assumption | (simp only [wnA]; done) | (simp only [wnA]; omega) | omega | fail) [wkA, retV, stabOk, dC, ev, fillD, pickCells, putAt, bnd, slD, List.getElem?_cons_zero, List.getElem?_cons_succ, dR_sl, Mem.cell, Mem.row, wmA]
              · intro ts3 r1 r8 r10 r11 r12 r99 r100 r101 r13 hle hp
                simp at r1 r8 r10 r11 r12 r99 r100 r101
                simp -implicitDefEqProofs (disch := first | assumption | (simp only [wnA]; done) | (simp only [wnA]; omega) | omega | fail) [wkA, retV, stabOk, dC, ev, fillD, pickCells, putAt, bnd, slD, List.getElem?_cons_zero, List.getElem?_cons_succ, dR_sl, Mem.cell, Mem.row, wmA, r101, s101, hjw]
                exact fin _ (e + 10) (by simp [r1, s1]) (by simp [r8, s8]) (by simp [r10, s10]) (by simp [r11, s11]) (by simp [r12, s12]) (by simp [r99, s99]) (by simp [r100, s100]) (by simp) (by simp [r13]) hle hp
              · simp [s1]
              · simp [s10]
              · simp [s11]
              · simp [s13]
              · simp
            · simp -implicitDefEqProofs (disch := first | assumption | (simp only [wnA]; done) | (simp only [wnA]; omega) | omega | fail) [hjl, rc73_3, wkA, retV, stabOk, dC, ev, fillD, pickCells, putAt, bnd, slD, List.getElem?_cons_zero, List.getElem?_cons_succ, dR_sl, Mem.cell, Mem.row, wmA, s8, s99, s101, sidx_at, g1, hat, hat', byteV, q1, h48a]
              refine cl ?_
              simp -implicitDefEqProofs (disch := first | assumption | (simp only [wnA]; done) | (simp only [wnA]; omega) | omega | fail) [wkA, retV, stabOk, dC, ev, fillD, pickCells, putAt, bnd, slD, List.getElem?_cons_zero, List.getElem?_cons_succ, dR_sl, Mem.cell, Mem.row, wmA, i97]
              refine cl ?_
              simp -implicitDefEqProofs (disch := first | assumption | (simp only [wnA]; done) | (simp only [wnA]; omega) | omega | fail) [wkA, retV, stabOk, dC, ev, fillD, pickCells, putAt, bnd, slD, List.getElem?_cons_zero, List.getElem?_cons_succ, dR_sl, Mem.cell, Mem.row, wmA, i97]
              refine cl ?_
              simp -implicitDefEqProofs (disch := first | assumption | (simp only [wnA]; done) | (simp only [wnA]; omega) | omega | fail) [wkA, retV, stabOk, dC, ev, fillD, pickCells, putAt, bnd, slD, List.getElem?_cons_zero, List.getElem?_cons_succ, dR_sl, Mem.cell, Mem.row, wmA, w8, w8']
              refine tail _ (e + 10) hd (by omega) ?_ ?_ ?_ ?_ ?_ ?_ ?_
              · intro ts3 m3; simp -implicitDefEqProofs (disch := first | assumption | (simp only [wnA]; done) | (simp only [wnA]; omega) | omega | fail) [wkA, retV, stabOk, dC, ev, fillD, pickCells, putAt, bnd, slD, List.getElem?_cons_zero, List.getElem?_cons_succ, dR_sl, Mem.cell, Mem.row, wmA]
              · intro ts3 r1 r8 r10 r11 r12 r99 r100 r101 r13 hle hp
                simp at r1 r8 r10 r11 r12 r99 r100 r101
                simp -implicitDefEqProofs (disch := first | assumption | (simp only [wnA]; done) | (simp only [wnA]; omega) | omega | fail) [wkA, retV, stabOk, dC, ev, fillD, pickCells, putAt, bnd, slD, List.getElem?_cons_zero, List.getElem?_cons_succ, dR_sl, Mem.cell, Mem.row, wmA, r101, s101, hjw]
                exact fin _ (e + 10) (by simp [r1, s1]) (by simp [r8, s8]) (by simp [r10, s10]) (by simp [r11, s11]) (by simp [r12, s12]) (by simp [r99, s99]) (by simp [r100, s100]) (by simp) (by simp [r13]) hle hp
              · simp [s1]
              · simp [s10]
              · simp [s11]
              · simp [s13]
              · simp
          · have hd : dgt c = none := by simp only [dgt]; rw [if_neg h48, if_neg h97]
            generalize hlo : lowN c = lo at *
            have cl : ∀ {R : Value → Mem → Prop}, R (.int .u8 ((lo : Nat) : Int)) m2 → AbC Tryd.prog w0 76 [.int .u8 (c.toNat : Int)] m2 R := fun h => c_lower (by rw [hlo]; exact h)
            have out : ∀ ts3 : Fr, ts3 6 = .int .u64 0 → ts3 7 = .iface 147 (.int .i64 2) → Q .ret ts3 m2 := fun ts3 e6 e7 => he ts3 m2 0 2 o1 e6 e7 (.inr rfl) (fun h => absurd h (by decide)) (bad (by simp [puStep, hd]))
            by_cases h48a : (48 : Int) ≤ (c.toNat : Int)
            · have h57 : ¬ (c.toNat : Int) ≤ 57 := by omega
              simp -implicitDefEqProofs (disch := first | assumption | (simp only [wnA]; done) | (simp only [wnA]; omega) | omega | fail) [hjl, rc73_3, wkA, retV, stabOk, dC, ev, fillD, pickCells, putAt, bnd, slD, List.getElem?_cons_zero, List.getElem?_cons_succ, dR_sl, Mem.cell, Mem.row, wmA, s8, s99, s101, sidx_at, g1, hat, hat', byteV, q1, h48a, h57]
              refine cl ?_
              by_cases hl1 : (97 : Int) ≤ (lo : Int)
              · have hl2 : ¬ (lo : Int) ≤ 122 := by omega
                simp -implicitDefEqProofs (disch := first | assumption | (simp only [wnA]; done) | (simp only [wnA]; omega) | omega | fail) [wkA, retV, stabOk, dC, ev, fillD, pickCells, putAt, bnd, slD, List.getElem?_cons_zero, List.getElem?_cons_succ, dR_sl, Mem.cell, Mem.row, wmA, hl1]
                refine cl ?_
                simp -implicitDefEqProofs (disch := first | assumption | (simp only [wnA]; done) | (simp only [wnA]; omega) | omega | fail) [wkA, retV, stabOk, dC, ev, fillD, pickCells, putAt, bnd, slD, List.getElem?_cons_zero, List.getElem?_cons_succ, dR_sl, Mem.cell, Mem.row, wmA, hl2]
                exact out _ (by simp) (by simp)
              · simp -implicitDefEqProofs (disch := first | assumption | (simp only [wnA]; done) | (simp only [wnA]; omega) | omega | fail) [wkA, retV, stabOk, dC, ev, fillD, pickCells, putAt, bnd, slD, List.getElem?_cons_zero, List.getElem?_cons_succ, dR_sl, Mem.cell, Mem.row, wmA, hl1]
                exact out _ (by simp) (by simp)
            · simp -implicitDefEqProofs (disch := first | assumption | (simp only [wnA]; done) | (simp only [wnA]; omega) | omega | fail) [hjl, rc73_3, wkA, retV, stabOk, dC, ev, fillD, pickCells, putAt, bnd, slD, List.getElem?_cons_zero, List.getElem?_cons_succ, dR_sl, Mem.cell, Mem.row, wmA, s8, s99, s101, sidx_at, g1, hat, hat', byteV, q1, h48a]
              refine cl ?_
              by_cases hl1 : (97 : Int) ≤ (lo : Int)
              · have hl2 : ¬ (lo : Int) ≤ 122 := by omega
                simp -implicitDefEqProofs (disch := first | assumption | (simp only [wnA]; done) | (simp only [wnA]; omega) | omega | fail) [wkA, retV, stabOk, dC, ev, fillD, pickCells, putAt, bnd, slD, List.getElem?_cons_zero, List.getElem?_cons_succ, dR_sl, Mem.cell, Mem.row, wmA, hl1]
                refine cl ?_
                simp -implicitDefEqProofs (disch := first | assumption | (simp only [wnA]; done) | (simp only [wnA]; omega) | omega | fail) [wkA, retV, stabOk, dC, ev, fillD, pickCells, putAt, bnd, slD, List.getElem?_cons_zero, List.getElem?_cons_succ, dR_sl, Mem.cell, Mem.row, wmA, hl2]
                exact out _ (by simp) (by simp)
              · simp -implicitDefEqProofs (disch := first | assumption | (simp only [wnA]; done) | (simp only [wnA]; omega) | omega | fail) [wkA, retV, stabOk, dC, ev, fillD, pickCells, putAt, bnd, slD, List.getElem?_cons_zero, List.getElem?_cons_succ, dR_sl, Mem.cell, Mem.row, wmA, hl1]
                exact out _ (by simp) (by simp)
    · have hjj : j = s.size := by omega
      subst hjj
      rw [List.drop_eq_nil_of_le (by omega)] at hpu
      simp -implicitDefEqProofs (disch := first | assumption | (simp only [wnA]; done) | (simp only [wnA]; omega) | omega | fail) [hjl, rc73_6, rc73_5, wkA, retV, stabOk, dC, ev, fillD, pickCells, putAt, bnd, slD, List.getElem?_cons_zero, List.getElem?_cons_succ, dR_sl, Mem.cell, Mem.row, wmA, s12, s13]
      exact hq _ _ n o1 (by simp) (by simp) hpu
end Go.Proofs.YtgfkjldohilmkaaDoor.Ab
