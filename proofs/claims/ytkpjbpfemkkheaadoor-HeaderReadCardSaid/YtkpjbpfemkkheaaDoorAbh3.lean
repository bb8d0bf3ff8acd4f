/- What a batch says of a file: header.May, header.Make, and names by numbers. -/
import Derived.Test.YtkpjbpfemkkheaaDoorAbz
import Derived.Test.YtkpjbpfemkkheaaDoorAbi1
import Derived.Test.YtkpjbpfemkkheaaDoorAbb2
import Derived.Test.YtkpjbpfemkkheaaDoorAbh1
set_option linter.unusedVariables false
set_option linter.unusedSimpArgs false
namespace Go.Proofs.YtkpjbpfemkkheaaDoor.Ab
open Go Go.RowKit
set_option maxHeartbeats 4000000
set_option maxRecDepth 100000

section
variable {P : Program} {w0 : World} {ts : Fr} {m : Mem} {R : Value → Mem → Prop}
theorem SK_mks {e bytes a : Nat} {z : Value} {n c : Operand} (hn : ev ts n = .int .i64 (a : Int)) (hc : ev ts c = .int .i64 (a : Int)) (hb : bytes * a ≤ 140737488355328) (hm : a ≤ maxLen) :
    SK P w0 (.e (.mks e bytes z n c)) ts m R = R (.slice (some ⟨m.next, 0, none⟩) a 1) (m.push (.own (List.replicate a z) e)) := by
  have h : (0 : Int) ≤ (a : Int) ∧ (a : Int) ≤ (a : Int) ∧ (bytes : Int) * (a : Int) ≤ 140737488355328 ∧ (a : Int) ≤ (maxLen : Nat) := ⟨by omega, Int.le_refl _, by rw [← Int.natCast_mul]; omega, Int.ofNat_le.2 hm⟩
  simp only [SK, dE, hn, hc]
  rw [if_pos h]
  simp
theorem SK_cpys {x y : Operand} {i o n : Nat} {cs : List Value} {e : TypeId} {s : ByteArray} (hx : ev ts x = .slice (some ⟨i, o, none⟩) n 1) (hy : ev ts y = .string s) (hm : m.get i = .own cs e) (hl : s.size ≤ n) (ho : o + n ≤ cs.length) :
    SK P w0 (.e (.cpy 1 x y)) ts m R = R (.int .i64 (s.size : Nat)) (m.set i (.own (putAt cs o (s.data.toList.map byteV)) e)) := by
  have h1 : min s.size n = s.size := by omega
  have h2 : (List.map byteV s.data.toList).take s.size = s.data.toList.map byteV := List.take_of_length_le (by simp)
  simp only [SK, dE, hx, hy, elemsV, if_true, lenV_str, hm, h1, Nat.mul_one, h2]
  rw [if_pos ⟨by omega, byteV_oneC _⟩]
end

/-! Names by numbers. -/
def nameCs : List UInt8 := [97, 98, 99, 88, 89, 90, 48, 49, 46, 45, 95]
def nch (b : UInt8) : UInt8 := nameCs.getD (b.toNat % 11) 0
def nameL (ns : List UInt8) : List UInt8 := 102 :: (ns.take 8).map nch
theorem ch_sub : ∀ k : Fin 11, (ByteArray.mk #[97, 98, 99, 88, 89, 90, 48, 49, 46, 45, 95]).extract k.val (k.val + 1) = ⟨⟨[nameCs.getD k.val 0]⟩⟩ := by decide +kernel

theorem ba_app (a b : List UInt8) : (ByteArray.mk ⟨a⟩) ++ (ByteArray.mk ⟨b⟩) = ⟨⟨a ++ b⟩⟩ := by
  apply ByteArray.ext
  simp

theorem c_nums {w0 : World} {m : Mem} {v : Value} {ns : List UInt8} {Q : Value → Mem → Prop} (hv : SlR m 1 v (ns.map byteV) ns.length) (hl : ns.length ≤ 9223372036854775807) (hq : Q (.string ⟨⟨nameL ns⟩⟩) m) :
    AbC Tryd.prog w0 12 [v] m Q := by
  refine AbC_fn ok12 (by simp) ?_
  simp -implicitDefEqProofs (disch := first | assumption | (simp only [wnA]; done) | (simp only [wnA]; omega) | omega | fail) [rc12, ro12, wkA, retV, stabOk, dC, ev, fillD, pickCells, putAt, bnd, slD, List.getElem?_cons_zero, List.getElem?_cons_succ, dR.eq_20, Mem.cell, Mem.row, wmA, hv.slen]
  refine LoopW_of (fun k ts m' => ∃ j, j + k = ns.length ∧ m' = m ∧ ts 3 = .string ⟨⟨nameL (ns.take j)⟩⟩ ∧ ts 6 = v ∧ ts 7 = .int .i64 (ns.length : Nat) ∧ ts 8 = .int .i64 (j : Nat)) ns.length ?_ ?_
  · exact ⟨0, by omega, rfl, by simp [nameL], by simp [frA_at], by simp, by simp⟩
  · rintro k ts m1 K ⟨j, hj, rfl, t3, t6, t7, t8⟩ hK
    simp -implicitDefEqProofs (disch := first | assumption | (simp only [wnA]; done) | (simp only [wnA]; omega) | omega | fail) [rc12_1, wkA, retV, stabOk, dC, ev, fillD, pickCells, putAt, bnd, slD, List.getElem?_cons_zero, List.getElem?_cons_succ, dR.eq_20, Mem.cell, Mem.row, wmA, t7, t8]
    by_cases hjl : j < ns.length
    · obtain ⟨bi, bo, L, hvv, hL, hLl, -, hLc⟩ := hv.at hjl
      have hc := hLc 0 (by omega)
      simp only [Nat.mul_one, Nat.add_zero, List.getElem?_map, List.getElem?_eq_getElem hjl, Option.map_some] at hc
      obtain ⟨x, hx⟩ : ∃ x, ns[j] = x := ⟨_, rfl⟩
      rw [hx] at hc
      rw [hvv] at t6
      obtain ⟨hlt', hc'⟩ := List.getElem?_eq_some_iff.1 hc
      have hjw : IntKind.i64.wrap ((j : Int) + 1) = ((j + 1 : Nat) : Int) := by rw [w64 (by omega)]; omega
      have htk : ns.take (j + 1) = ns.take j ++ [x] := by rw [List.take_succ_eq_append_getElem hjl, hx]
      by_cases h8 : j < 8
      · have h8' : (j : Int) < 8 := by omega
        have hm : ((x.toNat : Int)).tmod 11 = ((x.toNat % 11 : Nat) : Int) := by rw [Int.tmod_eq_emod_of_nonneg (by omega)]; omega
        have hm11 : x.toNat % 11 < 11 := Nat.mod_lt _ (by omega)
        have hw1 : IntKind.u8.wrap (((x.toNat % 11 : Nat) : Int) + 1) = ((x.toNat % 11 + 1 : Nat) : Int) := by rw [IntKind.wrap_u8]; omega
        have hsub := ch_sub ⟨x.toNat % 11, hm11⟩
        simp only at hsub
        have hnc : nch x = nameCs.getD (x.toNat % 11) 0 := rfl
        have hr : dBin .rem (.int .u8 (x.toNat : Int)) (.int .u8 11) = some (.int .u8 ((x.toNat % 11 : Nat) : Int)) := by rw [dBin_rem (by omega), hm]
        have hnx : nameL (ns.take (j + 1)) = nameL (ns.take j) ++ [nch x] := by
          unfold nameL
          rw [List.take_take, List.take_take, show min 8 (j + 1) = j + 1 from by omega, show min 8 j = j from by omega, htk]
          simp
        rw [hnc] at hnx
        have hlen : (nameL (ns.take j)).length + 1 ≤ 100 := by unfold nameL; simp; omega
        generalize nameL (ns.take j) = S at *
        generalize hMM : x.toNat % 11 = M at *
        have hm0 : (0 : Int) ≤ (M : Int) ∧ (M : Int) ≤ ((M + 1 : Nat) : Int) ∧ ((M + 1 : Nat) : Int) ≤ 11 := by omega
        have hsz : (ByteArray.mk #[97, 98, 99, 88, 89, 90, 48, 49, 46, 45, 95]).size = 11 := rfl
        have p1 : (0 : Int) ≤ (M : Int) + 1 ∧ (M : Int) + 1 ≤ 11 := by omega
        have p3 : (M : Int) ≤ (M : Int) + 1 := by omega
        have p2 : dBin .add (.string ⟨⟨S⟩⟩) (.string ⟨⟨[nameCs.getD M 0]⟩⟩) = some (.string ⟨⟨S ++ [nameCs.getD M 0]⟩⟩) := by
          rw [dBin_sadd (by show S.length + 1 ≤ _; omega), ba_app]
        generalize nameCs.getD M 0 = c at *
        simp -implicitDefEqProofs (disch := first | assumption | (simp only [wnA]; done) | (simp only [wnA]; omega) | omega | fail) [hjl, rc12_0, wkA, retV, stabOk, dC, ev, fillD, pickCells, putAt, bnd, slD, List.getElem?_cons_zero, List.getElem?_cons_succ, dR.eq_20, Mem.cell, Mem.row, wmA, t3, t6, t7, t8, sidx_at, hL, hc, hc', byteV, h8', hr, hw1, hsz, p1, hsub, p2, p3, hjw]
        exact hK (k - 1) _ _ (by omega) ⟨j + 1, by omega, rfl, by rw [hnx]; simp, by simp [t6, hvv], by simp [t7], by simp [hjw]⟩
      · have h8' : ¬ (j : Int) < 8 := by omega
        have hnx : nameL (ns.take (j + 1)) = nameL (ns.take j) := by
          unfold nameL
          rw [List.take_take, List.take_take, show min 8 (j + 1) = 8 from by omega, show min 8 j = 8 from by omega]
        simp -implicitDefEqProofs (disch := first | assumption | (simp only [wnA]; done) | (simp only [wnA]; omega) | omega | fail) [hjl, rc12_0, wkA, retV, stabOk, dC, ev, fillD, pickCells, putAt, bnd, slD, List.getElem?_cons_zero, List.getElem?_cons_succ, dR.eq_20, Mem.cell, Mem.row, wmA, t3, t6, t7, t8, sidx_at, hL, hc, hc', byteV, h8']
        exact hK (k - 1) _ _ (by omega) ⟨j + 1, by omega, rfl, by rw [hnx]; simp [t3], by simp [t6, hvv], by simp [t7], by simp [hjw]⟩
    · have hjj : j = ns.length := by omega
      subst hjj
      rw [List.take_length] at t3
      simp -implicitDefEqProofs (disch := first | assumption | (simp only [wnA]; done) | (simp only [wnA]; omega) | omega | fail) [hjl, rc12_2, wkA, retV, stabOk, dC, ev, fillD, pickCells, putAt, bnd, slD, List.getElem?_cons_zero, List.getElem?_cons_succ, dR.eq_20, Mem.cell, Mem.row, wmA, t3]
      exact hq

/-! What may be told of a file, and the data that tell it. -/
structure Fl where
  nm : ByteArray
  size : Int
  time : Int
  mode : Int
def Fl.v (f : Fl) : Value := .agg ⟨[.string f.nm, .int .i64 f.size, .int .i64 f.time, .int .i64 f.mode]⟩
def Fl.ok (f : Fl) : Prop := f.nm.size ≤ 9223372036854775807
def mayB (f : Fl) : Bool := nameB f.nm && (decide (0 ≤ f.size) && (decide (f.size ≤ 8192) && (decide (0 ≤ f.time) && (decide (f.time < 4294967296) && (decide (0 ≤ f.mode) && decide (f.mode < 65536))))))

theorem c_May {w0 : World} {m : Mem} {f : Fl} {Q : Value → Mem → Prop} (hf : f.ok) (hq : ∀ m', Old m m' → Q (.bool (mayB f)) m') : AbC Tryd.prog w0 16 [f.v] m Q := by
  refine AbC_fn ok16 (by simp) ?_
  obtain ⟨nm, sz, ti, mo⟩ := f
  simp only [Fl.v, Fl.ok] at *
  simp -implicitDefEqProofs (disch := first | assumption | (simp only [wnA]; done) | (simp only [wnA]; omega) | omega | fail) [rc16, ro16, wkA, retV, stabOk, dC, ev, fillD, pickCells, putAt, bnd, slD, List.getElem?_cons_zero, List.getElem?_cons_succ, dR.eq_20, Mem.cell, Mem.row, wmA]
  refine c_Name hf ?_
  have hq' := fun b (h : mayB ⟨nm, sz, ti, mo⟩ = b) => h ▸ hq (m.push (.own [.string nm, .int .i64 sz, .int .i64 ti, .int .i64 mo] 25)) ((Old.refl m).push _)
  simp only [mayB] at hq'
  cases hn : nameB nm with
  | false =>
    simp -implicitDefEqProofs (disch := first | assumption | (simp only [wnA]; done) | (simp only [wnA]; omega) | omega | fail) [wkA, retV, stabOk, dC, ev, fillD, pickCells, putAt, bnd, slD, List.getElem?_cons_zero, List.getElem?_cons_succ, dR.eq_20, Mem.cell, Mem.row, wmA]
    exact hq' _ (by simp [hn])
  | true =>
    by_cases h1 : 0 ≤ sz
    · by_cases h2 : sz ≤ 8192
      · by_cases h3 : 0 ≤ ti
        · by_cases h4 : ti < 4294967296
          · by_cases h5 : 0 ≤ mo
            · simp -implicitDefEqProofs (disch := first | assumption | (simp only [wnA]; done) | (simp only [wnA]; omega) | omega | fail) [wkA, retV, stabOk, dC, ev, fillD, pickCells, putAt, bnd, slD, List.getElem?_cons_zero, List.getElem?_cons_succ, dR.eq_20, Mem.cell, Mem.row, wmA, h1, h2, h3, h4, h5]
              exact hq' _ (by simp [hn, h1, h2, h3, h4, h5])
            · simp -implicitDefEqProofs (disch := first | assumption | (simp only [wnA]; done) | (simp only [wnA]; omega) | omega | fail) [wkA, retV, stabOk, dC, ev, fillD, pickCells, putAt, bnd, slD, List.getElem?_cons_zero, List.getElem?_cons_succ, dR.eq_20, Mem.cell, Mem.row, wmA, h1, h2, h3, h4, h5]
              exact hq' _ (by simp [hn, h1, h2, h3, h4, h5])
          · simp -implicitDefEqProofs (disch := first | assumption | (simp only [wnA]; done) | (simp only [wnA]; omega) | omega | fail) [wkA, retV, stabOk, dC, ev, fillD, pickCells, putAt, bnd, slD, List.getElem?_cons_zero, List.getElem?_cons_succ, dR.eq_20, Mem.cell, Mem.row, wmA, h1, h2, h3, h4]
            exact hq' _ (by simp [hn, h1, h2, h3, h4])
        · simp -implicitDefEqProofs (disch := first | assumption | (simp only [wnA]; done) | (simp only [wnA]; omega) | omega | fail) [wkA, retV, stabOk, dC, ev, fillD, pickCells, putAt, bnd, slD, List.getElem?_cons_zero, List.getElem?_cons_succ, dR.eq_20, Mem.cell, Mem.row, wmA, h1, h2, h3]
          exact hq' _ (by simp [hn, h1, h2, h3])
      · simp -implicitDefEqProofs (disch := first | assumption | (simp only [wnA]; done) | (simp only [wnA]; omega) | omega | fail) [wkA, retV, stabOk, dC, ev, fillD, pickCells, putAt, bnd, slD, List.getElem?_cons_zero, List.getElem?_cons_succ, dR.eq_20, Mem.cell, Mem.row, wmA, h1, h2]
        exact hq' _ (by simp [hn, h1, h2])
    · simp -implicitDefEqProofs (disch := first | assumption | (simp only [wnA]; done) | (simp only [wnA]; omega) | omega | fail) [wkA, retV, stabOk, dC, ev, fillD, pickCells, putAt, bnd, slD, List.getElem?_cons_zero, List.getElem?_cons_succ, dR.eq_20, Mem.cell, Mem.row, wmA, h1]
      exact hq' _ (by simp [hn, h1])

/-- The bytes that tell a file. -/
def tellL (f : Fl) : List UInt8 := f.nm.data.toList ++ 0 :: (numS 10 f.size ++ 32 :: (numS 8 f.time ++ 32 :: numS 8 f.mode))
def padL (l : List UInt8) : List UInt8 := l ++ List.replicate (128 - l.length) 0
theorem tell_len {f : Fl} (h : mayB f = true) : (tellL f).length ≤ 90 := by
  unfold mayB at h
  simp only [Bool.and_eq_true, decide_eq_true_eq, nameB] at h
  obtain ⟨⟨-, -, h1⟩, h2, h3, h4, h5, h6, h7⟩ := h
  have n1 : (numS 10 f.size).length ≤ 5 := numS_len (L := 4) (by omega) (by omega) (by omega)
  have n2 : (numS 8 f.time).length ≤ 12 := numS_len (L := 11) (by omega) (by omega) (by omega)
  have n3 : (numS 8 f.mode).length ≤ 7 := numS_len (L := 6) (by omega) (by omega) (by omega)
  have n4 : f.nm.data.toList.length = f.nm.size := by simp
  unfold tellL
  simp only [List.length_append, List.length_cons]
  omega

theorem c_Make {w0 : World} {m : Mem} {f : Fl} {Q : Value → Mem → Prop} (hp : Part L0 m) (ht : Ten w0) (hf : f.ok) (h0 : mayB f = false → ∀ m', Old m m' → Q (.tuple ⟨[.slice none 0 0, .bool false]⟩) m')
    (h1 : mayB f = true → ∀ m' i, Old m m' → m.next ≤ i → i < m'.next → m'.get i = .own ((padL (tellL f)).map byteV) 5 → Q (.tuple ⟨[.slice (some ⟨i, 0, none⟩) 128 1, .bool true]⟩) m') : AbC Tryd.prog w0 13 [f.v] m Q := by
  refine AbC_fn ok13 (by simp) ?_
  obtain ⟨nm, sz, ti, mo⟩ := f
  have e4 : ∀ a b c d : Value, Value.agg ⟨[a, b, c, d]⟩ = Value.agg #[a, b, c, d] := fun _ _ _ _ => rfl
  simp only [Fl.v] at *
  simp -implicitDefEqProofs (disch := first | assumption | (simp only [wnA]; done) | (simp only [wnA]; omega) | omega | fail) [rc13, ro13, wkA, retV, stabOk, dC, ev, fillD, pickCells, putAt, bnd, slD, List.getElem?_cons_zero, List.getElem?_cons_succ, dR.eq_20, Mem.cell, Mem.row, wmA]
  refine c_May (f := ⟨nm, sz, ti, mo⟩) hf fun m1 o1 => ?_
  cases hm : mayB ⟨nm, sz, ti, mo⟩ with
  | false =>
    simp -implicitDefEqProofs (disch := first | assumption | (simp only [wnA]; done) | (simp only [wnA]; omega) | omega | fail) [wkA, retV, stabOk, dC, ev, fillD, pickCells, putAt, bnd, slD, List.getElem?_cons_zero, List.getElem?_cons_succ, dR.eq_20, Mem.cell, Mem.row, wmA]
    exact h0 hm _ (Old.trans ((Old.refl m).push _) o1)
  | true =>
    have g1 : m1.get m.next = .own [.string nm, .int .i64 sz, .int .i64 ti, .int .i64 mo] 25 := by rw [o1.2 _ (by simp)]; simp
    have o2 : Old m m1 := Old.trans ((Old.refl m).push _) o1
    have hmm := hm
    unfold mayB at hmm
    simp only [Bool.and_eq_true, decide_eq_true_eq, nameB] at hmm
    obtain ⟨⟨-, b0, b1⟩, b2, b3, b4, b5, b6, b7⟩ := hmm
    have n1 : (numS 10 sz).length ≤ 5 := numS_len (L := 4) (by omega) (by omega) (by omega)
    have n2 : (numS 8 ti).length ≤ 12 := numS_len (L := 11) (by omega) (by omega) (by omega)
    have n3 : (numS 8 mo).length ≤ 7 := numS_len (L := 6) (by omega) (by omega) (by omega)
    simp -implicitDefEqProofs (disch := first | assumption | (simp only [wnA]; done) | (simp only [wnA]; omega) | omega | fail) [wkA, retV, stabOk, dC, ev, fillD, pickCells, putAt, bnd, slD, List.getElem?_cons_zero, List.getElem?_cons_succ, dR.eq_20, Mem.cell, Mem.row, wmA, rc13_0, g1]
    refine c_Itoa ht (by omega) ?_
    simp -implicitDefEqProofs (disch := first | assumption | (simp only [wnA]; done) | (simp only [wnA]; omega) | omega | fail) [wkA, retV, stabOk, dC, ev, fillD, pickCells, putAt, bnd, slD, List.getElem?_cons_zero, List.getElem?_cons_succ, dR.eq_20, Mem.cell, Mem.row, wmA, g1]
    refine c_FormatInt (B := 8) (Old.part hp o2) ht (.inl rfl) (by omega) fun m2 o3 => ?_
    have g2 : m2.get m.next = .own [.string nm, .int .i64 sz, .int .i64 ti, .int .i64 mo] 25 := by rw [o3.2 _ (by have := o1.1; simp at this; omega), g1]
    simp -implicitDefEqProofs (disch := first | assumption | (simp only [wnA]; done) | (simp only [wnA]; omega) | omega | fail) [wkA, retV, stabOk, dC, ev, fillD, pickCells, putAt, bnd, slD, List.getElem?_cons_zero, List.getElem?_cons_succ, dR.eq_20, Mem.cell, Mem.row, wmA, g1, g2]
    refine c_FormatInt (B := 8) (Old.part hp (o2.trans o3)) ht (.inl rfl) (by omega) fun m3 o4 => ?_
    have g3 : m3.get m.next = .own [.string nm, .int .i64 sz, .int .i64 ti, .int .i64 mo] 25 := by rw [o4.2 _ (by have := o1.1; have := o3.1; simp at *; omega), g2]
    simp -implicitDefEqProofs (disch := first | assumption | (simp only [wnA]; done) | (simp only [wnA]; omega) | omega | fail) [wkA, retV, stabOk, dC, ev, fillD, pickCells, putAt, bnd, slD, List.getElem?_cons_zero, List.getElem?_cons_succ, dR.eq_20, Mem.cell, Mem.row, wmA, g1, g2, g3]
    rw [SK_bsl (cs := [.string ⟨⟨numS 10 sz⟩⟩, .string ⟨⟨numS 8 ti⟩⟩, .string ⟨⟨numS 8 mo⟩⟩]) (by simp [wkA, retV, stabOk, dC, ev, fillD, pickCells, putAt, bnd, slD, List.getElem?_cons_zero, List.getElem?_cons_succ, dR.eq_20]) (by simp)]
    simp -implicitDefEqProofs (disch := first | assumption | (simp only [wnA]; done) | (simp only [wnA]; omega) | omega | fail) [wkA, retV, stabOk, dC, ev, fillD, pickCells, putAt, bnd, slD, List.getElem?_cons_zero, List.getElem?_cons_succ, dR.eq_20, Mem.cell, Mem.row, wmA]
    have hlt : m.next < m3.next := by have := o1.1; have := o3.1; have := o4.1; simp at *; omega
    rw [SK_mks (a := 128) (by simp [wkA, retV, stabOk, dC, ev, fillD, pickCells, putAt, bnd, slD, List.getElem?_cons_zero, List.getElem?_cons_succ, dR.eq_20]) (by simp [wkA, retV, stabOk, dC, ev, fillD, pickCells, putAt, bnd, slD, List.getElem?_cons_zero, List.getElem?_cons_succ, dR.eq_20]) (by omega) (by simp only [maxLen]; omega)]
    obtain ⟨Z, hZ⟩ : ∃ Z, List.replicate 128 (Value.int .u8 0) = Z := ⟨_, rfl⟩
    rw [hZ]
    have hz1 : m.next ≠ m3.next := by omega
    have hz2 : m.next ≠ m3.next + 1 := by omega
    have j1 : (⟨⟨numS 10 sz⟩⟩ : ByteArray).size = (numS 10 sz).length := rfl
    have j2 : (⟨⟨numS 8 ti⟩⟩ : ByteArray).size = (numS 8 ti).length := rfl
    have j3 : (⟨⟨numS 8 mo⟩⟩ : ByteArray).size = (numS 8 mo).length := rfl
    have pa : dBin .add (.string nm) (.string ⟨#[0]⟩) = some (.string (nm ++ ⟨⟨[0]⟩⟩)) := dBin_sadd (by show nm.size + 1 ≤ _; omega)
    simp -implicitDefEqProofs (disch := first | assumption | (simp only [wnA]; done) | (simp only [wnA]; omega) | omega | fail) [wkA, retV, stabOk, dC, ev, fillD, pickCells, putAt, bnd, slD, List.getElem?_cons_zero, List.getElem?_cons_succ, dR.eq_20, Mem.cell, Mem.row, wmA, g3, pa]
    refine c_Join (xs := [⟨⟨numS 10 sz⟩⟩, ⟨⟨numS 8 ti⟩⟩, ⟨⟨numS 8 mo⟩⟩]) (sep := ⟨⟨[32]⟩⟩) ?_ ?_ (by simp) (by decide) ?_ fun m4 o5 => ?_
    · exact ⟨rfl, .inr ⟨m3.next, 0, [.string ⟨⟨numS 10 sz⟩⟩, .string ⟨⟨numS 8 ti⟩⟩, .string ⟨⟨numS 8 mo⟩⟩], rfl, by simp -implicitDefEqProofs (disch := first | assumption | (simp only [wnA]; done) | (simp only [wnA]; omega) | omega | fail) [Mem.cell, Mem.row, wmA], by simp, rfl⟩⟩
    · intro b hb
      simp [blk] at hb
      simp; omega
    · simp only [totL, List.map_cons, List.map_nil, List.sum_cons, List.sum_nil, j1, j2, j3, List.length_cons, List.length_nil]
      show (1 + 1) * _ + _ ≤ _
      omega
    have g4 : m4.get m.next = .own [.string nm, .int .i64 sz, .int .i64 ti, .int .i64 mo] 25 := by rw [o5.2 _ (by simp; omega)]; simp -implicitDefEqProofs (disch := first | assumption | (simp only [wnA]; done) | (simp only [wnA]; omega) | omega | fail) [Mem.cell, Mem.row, wmA, g3]
    have g5 : m4.get (m3.next + 1) = .own Z 5 := by rw [o5.2 _ (by simp)]; simp [Mem.push_get]
    have htl := tell_len hm
    have hjl : (nm ++ ⟨⟨[0]⟩⟩) ++ (⟨⟨joinL [32] [⟨⟨numS 10 sz⟩⟩, ⟨⟨numS 8 ti⟩⟩, ⟨⟨numS 8 mo⟩⟩]⟩⟩ : ByteArray) = ⟨⟨tellL ⟨nm, sz, ti, mo⟩⟩⟩ := by
      apply ByteArray.ext
      simp [tellL, joinL]
    have pb : dBin .add (.string (nm ++ ⟨⟨[0]⟩⟩)) (.string ⟨⟨joinL [32] [⟨⟨numS 10 sz⟩⟩, ⟨⟨numS 8 ti⟩⟩, ⟨⟨numS 8 mo⟩⟩]⟩⟩) = some (.string ⟨⟨tellL ⟨nm, sz, ti, mo⟩⟩⟩) := by
      rw [dBin_sadd, hjl]
      have : (nm ++ ⟨⟨[0]⟩⟩ : ByteArray).size = nm.size + 1 := by rw [ByteArray.size_append]; rfl
      rw [this]
      show _ + (joinL [32] [⟨⟨numS 10 sz⟩⟩, ⟨⟨numS 8 ti⟩⟩, ⟨⟨numS 8 mo⟩⟩]).length ≤ _
      simp [joinL]; omega
    simp -implicitDefEqProofs (disch := first | assumption | (simp only [wnA]; done) | (simp only [wnA]; omega) | omega | fail) [wkA, retV, stabOk, dC, ev, fillD, pickCells, putAt, bnd, slD, List.getElem?_cons_zero, List.getElem?_cons_succ, dR.eq_20, Mem.cell, Mem.row, wmA, g4, pb]
    have hZl : Z.length = 128 := by rw [← hZ]; simp
    have htl2 : (⟨⟨tellL ⟨nm, sz, ti, mo⟩⟩⟩ : ByteArray).size = (tellL ⟨nm, sz, ti, mo⟩).length := rfl
    rw [SK_cpys (i := m3.next + 1) (o := 0) (n := 128) (s := ⟨⟨tellL ⟨nm, sz, ti, mo⟩⟩⟩) (by simp [wkA, retV, stabOk, dC, ev, fillD, pickCells, putAt, bnd, slD, List.getElem?_cons_zero, List.getElem?_cons_succ, dR.eq_20]) (by simp [wkA, retV, stabOk, dC, ev, fillD, pickCells, putAt, bnd, slD, List.getElem?_cons_zero, List.getElem?_cons_succ, dR.eq_20]) g5 (by omega) (by omega)]
    simp -implicitDefEqProofs (disch := first | assumption | (simp only [wnA]; done) | (simp only [wnA]; omega) | omega | fail) [wkA, retV, stabOk, dC, ev, fillD, pickCells, putAt, bnd, slD, List.getElem?_cons_zero, List.getElem?_cons_succ, dR.eq_20, Mem.cell, Mem.row, wmA]
    refine h1 hm _ (m3.next + 1) ?_ (by omega) ?_ ?_
    · exact (o2.trans (o3.trans (o4.trans (Old.trans (((Old.refl m3).push _).push _) o5)))).set (by omega) _
    · have := o5.1; simp at this ⊢; omega
    · simp only [Mem.set_same, padL]
      congr 1
      simp only [List.take_zero, List.nil_append, List.length_map, Nat.zero_add, List.map_append, List.map_replicate, ← hZ, List.drop_replicate, byteV]
      rfl
end Go.Proofs.YtkpjbpfemkkheaaDoor.Ab
