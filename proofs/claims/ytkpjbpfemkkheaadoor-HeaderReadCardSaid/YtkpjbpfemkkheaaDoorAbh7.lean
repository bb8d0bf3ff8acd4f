/- What says that nothing more comes is no file, and no file says so: the law. -/
import Derived.Test.YtkpjbpfemkkheaaDoorAbz
import Derived.Test.YtkpjbpfemkkheaaDoorAbh6
set_option linter.unusedVariables false
set_option linter.unusedSimpArgs false
namespace Go.Proofs.YtkpjbpfemkkheaaDoor.Ab
open Go Go.RowKit
set_option maxHeartbeats 1000000
set_option maxRecDepth 100000

theorem c_Empty {w0 : World} {m : Mem} {Q : Value → Mem → Prop} (hq : Q (.slice (some ⟨m.next, 0, none⟩) 128 1) (m.push (.own ((List.replicate 128 (0 : UInt8)).map byteV) 5))) : AbC Tryd.prog w0 18 [] m Q := by
  refine AbC_fn ok18 (by simp) ?_
  simp -implicitDefEqProofs (disch := first | assumption | (simp only [wnA]; done) | (simp only [wnA]; omega) | omega | fail) [rc18, ro18, wkA, retV, stabOk, dC, ev, fillD, pickCells, putAt, bnd, slD, List.getElem?_cons_zero, List.getElem?_cons_succ, dR.eq_20, Mem.cell, Mem.row, wmA]
  rw [SK_mks (a := 128) (by simp [wkA, retV, stabOk, dC, ev, fillD, pickCells, putAt, bnd, slD, List.getElem?_cons_zero, List.getElem?_cons_succ, dR.eq_20]) (by simp [wkA, retV, stabOk, dC, ev, fillD, pickCells, putAt, bnd, slD, List.getElem?_cons_zero, List.getElem?_cons_succ, dR.eq_20]) (by omega) (by simp only [maxLen]; omega)]
  have e : List.replicate 128 (Value.int .u8 0) = (List.replicate 128 (0 : UInt8)).map byteV := by rw [List.map_replicate]; rfl
  rw [e]
  generalize (List.replicate 128 (0 : UInt8)).map byteV = L at *
  simp -implicitDefEqProofs (disch := first | assumption | (simp only [wnA]; done) | (simp only [wnA]; omega) | omega | fail) [wkA, retV, stabOk, dC, ev, fillD, pickCells, putAt, bnd, slD, List.getElem?_cons_zero, List.getElem?_cons_succ, dR.eq_20, Mem.cell, Mem.row, wmA]
  exact hq

def endsB (l : List UInt8) : Bool := l.length == 128 && l.head? == some 0
theorem ends_at {m : Mem} {v : Value} {l : List UInt8} (hv : SlR m 1 v (l.map byteV) l.length) (hl : l.length = 128) : ∃ i o L c, v = .slice (some ⟨i, o, none⟩) 128 1 ∧ sidx 1 (.slice (some ⟨i, o, none⟩) 128 1) (.int .i64 0) = some (.pointer (some ⟨i, o, none⟩)) ∧ (m.get i).cells? = some L ∧ (∃ h : o < L.length, L[o] = byteV c) ∧ L[o]? = some (byteV c) ∧ endsB l = ((c.toNat : Int) == 0) := by
  obtain ⟨i, o, L, e, h2, h3, -, h5⟩ := hv.at (j := 0) (by omega)
  have h6 := h5 0 (by omega)
  simp only [Nat.mul_one, Nat.add_zero, Nat.zero_mul, List.getElem?_map] at h6
  obtain ⟨c, r, rfl⟩ : ∃ c r, l = c :: r := by
    cases l with
    | nil => simp at hl
    | cons c r => exact ⟨c, r, rfl⟩
  simp only [List.getElem?_cons_zero, Option.map_some] at h6
  have hs0 : sidx 1 (.slice (some ⟨i, o, none⟩) (c :: r).length 1) (.int .i64 0) = some (.pointer (some ⟨i, o, none⟩)) := by
    have := sidx_at (b := i) (o := o) (n := (c :: r).length) (c := 1) (j := 0) (sz := 1) (k := .i64) (by simp)
    simpa using this
  rw [hl] at hs0 e
  have hc8 : c.toNat < 256 := c.toNat_lt
  have e0 : endsB (c :: r) = ((c.toNat : Int) == 0) := by
    simp only [endsB, hl, List.head?_cons]
    simp
    rw [Bool.eq_iff_iff, beq_iff_eq, beq_iff_eq]
    constructor
    · intro h; rw [h]; rfl
    · intro h; exact UInt8.toNat_inj.1 (by show c.toNat = 0; omega)
  exact ⟨i, o, L, c, e, hs0, h2, List.getElem?_eq_some_iff.1 h6, h6, e0⟩
theorem c_Ends {w0 : World} {m : Mem} {v : Value} {l : List UInt8} {Q : Value → Mem → Prop} (hv : SlR m 1 v (l.map byteV) l.length) (hq : Q (.bool (endsB l)) m) : AbC Tryd.prog w0 19 [v] m Q := by
  refine AbC_fn ok19 (by simp) ?_
  have hq' := fun b (h : endsB l = b) => h ▸ hq
  simp -implicitDefEqProofs (disch := first | assumption | (simp only [wnA]; done) | (simp only [wnA]; omega) | omega | fail) [rc19, ro19, wkA, retV, stabOk, dC, ev, fillD, pickCells, putAt, bnd, slD, List.getElem?_cons_zero, List.getElem?_cons_succ, dR.eq_20, Mem.cell, Mem.row, wmA, hv.slen]
  by_cases hl : l.length = 128
  · obtain ⟨i, o, L, c, rfl, hs0, h2, ⟨hlt', h6'⟩, h6, e0⟩ := ends_at hv hl
    simp -implicitDefEqProofs (disch := first | assumption | (simp only [wnA]; done) | (simp only [wnA]; omega) | omega | fail) [wkA, retV, stabOk, dC, ev, fillD, pickCells, putAt, bnd, slD, List.getElem?_cons_zero, List.getElem?_cons_succ, dR.eq_20, Mem.cell, Mem.row, wmA, hl, hs0, h2, h6, h6', byteV]
    exact hq' _ e0
  · have hl' : ¬ (l.length : Int) = 128 := by omega
    simp -implicitDefEqProofs (disch := first | assumption | (simp only [wnA]; done) | (simp only [wnA]; omega) | omega | fail) [wkA, retV, stabOk, dC, ev, fillD, pickCells, putAt, bnd, slD, List.getElem?_cons_zero, List.getElem?_cons_succ, dR.eq_20, Mem.cell, Mem.row, wmA, beqF hl']
    exact hq' _ (by simp [endsB, hl])

theorem tell_head {f : Fl} (h : mayB f = true) : ∃ c r, padL (tellL f) = c :: r ∧ c ≠ 0 := by
  have hn : (0 : UInt8) ∉ f.nm.data.toList := nameB_mem (by simp only [mayB, Bool.and_eq_true] at h; exact h.1)
  have hp : 0 < f.nm.data.toList.length := by
    simp only [mayB, Bool.and_eq_true, nameB, decide_eq_true_eq] at h
    obtain ⟨⟨-, h1, h2⟩, -⟩ := h
    simp
    omega
  unfold padL tellL
  cases hl : f.nm.data.toList with
  | nil => rw [hl] at hp; simp at hp
  | cons c r =>
    refine ⟨c, _, rfl, ?_⟩
    rintro rfl
    rw [hl] at hn
    simp at hn
theorem ends_tell {f : Fl} (h : mayB f = true) : endsB (padL (tellL f)) = false := by
  obtain ⟨c, r, e, hc⟩ := tell_head h
  simp [endsB, e, hc]
theorem zeros_tell {f : Fl} (h : mayB f = true) : List.replicate 128 (0 : UInt8) ≠ padL (tellL f) := by
  obtain ⟨c, r, e, hc⟩ := tell_head h
  rw [e]
  intro h
  simp only [show (128 : Nat) = 127 + 1 from rfl, List.replicate_succ, List.cons.injEq] at h
  exact hc h.1.symm

theorem own_read {m : Mem} {i n : Nat} {l : List UInt8} (h : m.get i = .own (l.map byteV) 5) (hi : i < m.next) (hl : l.length = n) : SlR m 1 (.slice (some ⟨i, 0, none⟩) n 1) (l.map byteV) l.length := by
  subst hl
  have : SlO m 5 1 (some i) (l.map byteV) l.length := ⟨by simp, h, hi⟩
  exact this.read
theorem l_Empty {w0 : World} {m : Mem} {v1 v2 : Value} {l ns : List UInt8} (hp : Part L0 m) (ht : Ten w0) (hE : ErrV w0) (h1 : SlR m 1 v1 (l.map byteV) l.length) (b1 : ∀ b, blk v1 = some b → b < m.next) (h2 : SlR m 1 v2 (ns.map byteV) ns.length) (b2 : ∀ b, blk v2 = some b → b < m.next)
    (l1 : l.length ≤ maxLen) (l2 : ns.length ≤ maxLen) :
    AbC Tryd.prog w0 7 [v1, v2] m fun v _ => v = .bool true := by
  refine AbC_fn ok7 (by simp) ?_
  have hml : maxLen ≤ 9223372036854775807 := by unfold maxLen; omega
  simp -implicitDefEqProofs (disch := first | assumption | (simp only [wnA]; done) | (simp only [wnA]; omega) | omega | fail) [rc7, ro7, wkA, retV, stabOk, dC, ev, fillD, pickCells, putAt, bnd, slD, List.getElem?_cons_zero, List.getElem?_cons_succ, dR.eq_20, Mem.cell, Mem.row, wmA]
  refine c_awake hp ?_
  simp -implicitDefEqProofs (disch := first | assumption | (simp only [wnA]; done) | (simp only [wnA]; omega) | omega | fail) [rc7_0, wkA, retV, stabOk, dC, ev, fillD, pickCells, putAt, bnd, slD, List.getElem?_cons_zero, List.getElem?_cons_succ, dR.eq_20, Mem.cell, Mem.row, wmA]
  refine c_Empty ?_
  have o1 : Old m (m.push (.own ((List.replicate 128 (0 : UInt8)).map byteV) 5)) := (Old.refl m).push _
  have g1 : (m.push (.own ((List.replicate 128 (0 : UInt8)).map byteV) 5)).get m.next = .own ((List.replicate 128 (0 : UInt8)).map byteV) 5 := by simp
  have n1 : m.next < (m.push (.own ((List.replicate 128 (0 : UInt8)).map byteV) 5)).next := by simp
  generalize m.push (.own ((List.replicate 128 (0 : UInt8)).map byteV) 5) = m1 at *
  simp -implicitDefEqProofs (disch := first | assumption | (simp only [wnA]; done) | (simp only [wnA]; omega) | omega | fail) [wkA, retV, stabOk, dC, ev, fillD, pickCells, putAt, bnd, slD, List.getElem?_cons_zero, List.getElem?_cons_succ, dR.eq_20, Mem.cell, Mem.row, wmA]
  refine c_Read (o1.part hp) ht hE (own_read g1 n1 (by simp)) (fun b hb => by simp only [blk, Option.some.injEq] at hb; omega) (fun m2 o2 _ => ?_) fun m2 f _ hf e => (zeros_tell hf e).elim
  rw [← o2.2 _ n1] at g1
  have n2 : m.next < m2.next := by have := o2.1; omega
  have oo2 := o1.trans o2
  clear o1 o2
  simp -implicitDefEqProofs (disch := first | assumption | (simp only [wnA]; done) | (simp only [wnA]; omega) | omega | fail) [wkA, retV, stabOk, dC, ev, fillD, pickCells, putAt, bnd, slD, List.getElem?_cons_zero, List.getElem?_cons_succ, dR.eq_20, Mem.cell, Mem.row, wmA, zeroF]
  refine SK_st (i := m2.next) (o := 0) (by simp [wkA, retV, stabOk, dC, ev, fillD, pickCells, putAt, bnd, slD, List.getElem?_cons_zero, List.getElem?_cons_succ, dR.eq_20]) (e := 25) (by simp -implicitDefEqProofs (disch := first | assumption | (simp only [wnA]; done) | (simp only [wnA]; omega) | omega | fail) [Mem.cell, Mem.row, wmA]; rfl) (by simp) (by simp [wkA, retV, stabOk, dC, ev, fillD, pickCells, putAt, bnd, slD, List.getElem?_cons_zero, List.getElem?_cons_succ, dR.eq_20]) (by simp [wkA, retV, stabOk, dC, ev, fillD, pickCells, putAt, bnd, slD, List.getElem?_cons_zero, List.getElem?_cons_succ, dR.eq_20, oneC]) ?_
  simp -implicitDefEqProofs (disch := first | assumption | (simp only [wnA]; done) | (simp only [wnA]; omega) | omega | fail) [wkA, retV, stabOk, dC, ev, fillD, pickCells, putAt, bnd, slD, List.getElem?_cons_zero, List.getElem?_cons_succ, dR.eq_20, Mem.cell, Mem.row, wmA]
  have o3 : Old m ((m2.push (.own [.string ⟨#[]⟩, .int .i64 0, .int .i64 0, .int .i64 0] 25)).set m2.next (.own [.string ⟨#[]⟩, .int .i64 0, .int .i64 0, .int .i64 0] 25)) := (oo2.push _).set (by omega) _
  have gz : ∀ k, k < m2.next → ((m2.push (.own [.string ⟨#[]⟩, .int .i64 0, .int .i64 0, .int .i64 0] 25)).set m2.next (.own [.string ⟨#[]⟩, .int .i64 0, .int .i64 0, .int .i64 0] 25)).get k = m2.get k := fun k hk => by
    rw [Mem.set_other _ _ (by omega), Mem.push_old _ _ hk]
  have hm3 : m2.next + 1 = ((m2.push (.own [.string ⟨#[]⟩, .int .i64 0, .int .i64 0, .int .i64 0] 25)).set m2.next (.own [.string ⟨#[]⟩, .int .i64 0, .int .i64 0, .int .i64 0] 25)).next := by simp
  rw [← gz _ n2] at g1
  generalize (m2.push (.own [.string ⟨#[]⟩, .int .i64 0, .int .i64 0, .int .i64 0] 25)).set m2.next (.own [.string ⟨#[]⟩, .int .i64 0, .int .i64 0, .int .i64 0] 25) = m3 at *
  refine c_nums (h2.keep fun b hb => o3.2 b (b2 b hb)) (by omega) ?_
  simp -implicitDefEqProofs (disch := first | assumption | (simp only [wnA]; done) | (simp only [wnA]; omega) | omega | fail) [wkA, retV, stabOk, dC, ev, fillD, pickCells, putAt, bnd, slD, List.getElem?_cons_zero, List.getElem?_cons_succ, dR.eq_20, Mem.cell, Mem.row, wmA]
  have mA := nums_may ns (z := 0) (by omega)
  refine c_Make (f := ⟨⟨⟨nameL ns⟩⟩, 0, 0, 0⟩) (o3.part hp) ht (by show (nameL ns).length ≤ _; simp [nameL]; omega) (fun e => by rw [mA] at e; cases e) fun _ m4 i4 p4 q1 q2 q3 => ?_
  rw [← p4.2 _ (by omega)] at g1
  have n4 : m.next < m4.next := by omega
  have o4 := o3.trans p4
  have hA := ends_tell mA
  have lA := pad_len mA
  simp -implicitDefEqProofs (disch := first | assumption | (simp only [wnA]; done) | (simp only [wnA]; omega) | omega | fail) [wkA, retV, stabOk, dC, ev, fillD, pickCells, putAt, bnd, slD, List.getElem?_cons_zero, List.getElem?_cons_succ, dR.eq_20, Mem.cell, Mem.row, wmA]
  refine c_Ends (own_read g1 n4 (by simp)) ?_
  have e0 : endsB (List.replicate 128 (0 : UInt8)) = true := rfl
  rw [e0]
  simp -implicitDefEqProofs (disch := first | assumption | (simp only [wnA]; done) | (simp only [wnA]; omega) | omega | fail) [wkA, retV, stabOk, dC, ev, fillD, pickCells, putAt, bnd, slD, List.getElem?_cons_zero, List.getElem?_cons_succ, dR.eq_20, Mem.cell, Mem.row, wmA]
  refine c_Ends (own_read q3 q2 lA) ?_
  rw [hA]
  have h1' := h1.keep fun b hb => o4.2 b (b1 b hb)
  simp -implicitDefEqProofs (disch := first | assumption | (simp only [wnA]; done) | (simp only [wnA]; omega) | omega | fail) [wkA, retV, stabOk, dC, ev, fillD, pickCells, putAt, bnd, slD, List.getElem?_cons_zero, List.getElem?_cons_succ, dR.eq_20, Mem.cell, Mem.row, wmA]
  refine c_Ends h1' ?_
  simp -implicitDefEqProofs (disch := first | assumption | (simp only [wnA]; done) | (simp only [wnA]; omega) | omega | fail) [wkA, retV, stabOk, dC, ev, fillD, pickCells, putAt, bnd, slD, List.getElem?_cons_zero, List.getElem?_cons_succ, dR.eq_20, Mem.cell, Mem.row, wmA, h1'.slen]
  by_cases hl : l.length = 128
  · obtain ⟨i, o, L, c, rfl, hs0, k2, ⟨hlt', k6'⟩, k6, e0⟩ := ends_at h1' hl
    simp -implicitDefEqProofs (disch := first | assumption | (simp only [wnA]; done) | (simp only [wnA]; omega) | omega | fail) [wkA, retV, stabOk, dC, ev, fillD, pickCells, putAt, bnd, slD, List.getElem?_cons_zero, List.getElem?_cons_succ, dR.eq_20, Mem.cell, Mem.row, wmA, hl, hs0, k2, k6, k6', byteV, e0]
  · have hl' : ¬ (l.length : Int) = 128 := by omega
    have e1 : endsB l = false := by simp [endsB, hl]
    simp -implicitDefEqProofs (disch := first | assumption | (simp only [wnA]; done) | (simp only [wnA]; omega) | omega | fail) [wkA, retV, stabOk, dC, ev, fillD, pickCells, putAt, bnd, slD, List.getElem?_cons_zero, List.getElem?_cons_succ, dR.eq_20, Mem.cell, Mem.row, wmA, beqF hl', e1]
end Go.Proofs.YtkpjbpfemkkheaaDoor.Ab
