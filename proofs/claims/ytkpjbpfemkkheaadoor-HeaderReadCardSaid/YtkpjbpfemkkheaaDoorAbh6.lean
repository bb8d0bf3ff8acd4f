/- What a batch's data say of a file: header.number, header.Read. -/
import Derived.Test.YtkpjbpfemkkheaaDoorAbz
import Derived.Test.YtkpjbpfemkkheaaDoorAbh5
import Derived.Test.YtkpjbpfemkkheaaDoorAbp3
import Derived.Test.YtkpjbpfemkkheaaDoorAbs2
set_option linter.unusedVariables false
set_option linter.unusedSimpArgs false
namespace Go.Proofs.YtkpjbpfemkkheaaDoor.Ab
open Go Go.RowKit
set_option maxHeartbeats 1000000
set_option maxRecDepth 100000

theorem c_num {w0 : World} {m : Mem} {B : Nat} {most : Int} {s : ByteArray} {Q : Value → Mem → Prop} (hp : Part L0 m) (ht : Ten w0) (hE : ErrV w0) (hB : B = 8 ∨ B = 10) (hm : 0 ≤ most ∧ most < 9223372036854775808) (hs : s.size ≤ 140737488355328)
    (h0 : ∀ m' v, Old m m' → (∀ k : Nat, (k : Int) ≤ most → s.data.toList ≠ digs B k) → Q (.tuple ⟨[.int .i64 v, .bool false]⟩) m')
    (h1 : ∀ m' (k : Nat), Old m m' → (k : Int) ≤ most → s.data.toList = digs B k → Q (.tuple ⟨[.int .i64 (k : Nat), .bool true]⟩) m') :
    AbC Tryd.prog w0 26 [.string s, .int .i64 (B : Int), .int .i64 most] m Q := by
  refine AbC_fn ok26 (by simp) ?_
  simp -implicitDefEqProofs (disch := first | assumption | (simp only [wnA]; done) | (simp only [wnA]; omega) | omega | fail) [rc26, ro26, wkA, retV, stabOk, dC, ev, fillD, pickCells, putAt, bnd, slD, List.getElem?_cons_zero, List.getElem?_cons_succ, dR.eq_20, Mem.cell, Mem.row, wmA]
  refine c_ParseInt hE (by omega) hs (fun m1 v p o1 hn => ?_) fun m1 v o1 hv => ?_
  · simp -implicitDefEqProofs (disch := first | assumption | (simp only [wnA]; done) | (simp only [wnA]; omega) | omega | fail) [wkA, retV, stabOk, dC, ev, fillD, pickCells, putAt, bnd, slD, List.getElem?_cons_zero, List.getElem?_cons_succ, dR.eq_20, Mem.cell, Mem.row, wmA]
    exact h0 _ _ o1 fun k hk => hn k (by omega)
  · have bad : (v < 0 ∨ most < v) → ∀ k : Nat, (k : Int) ≤ most → s.data.toList ≠ digs B k := fun hb k hk e => by
      have := hv k (by omega) e
      omega
    by_cases b0 : 0 ≤ v
    · by_cases b1 : v ≤ most
      · simp -implicitDefEqProofs (disch := first | assumption | (simp only [wnA]; done) | (simp only [wnA]; omega) | omega | fail) [wkA, retV, stabOk, dC, ev, fillD, pickCells, putAt, bnd, slD, List.getElem?_cons_zero, List.getElem?_cons_succ, dR.eq_20, Mem.cell, Mem.row, wmA, b0, b1]
        refine c_FormatInt (B := B) (Old.part hp o1) ht (by omega) (by omega) fun m2 o2 => ?_
        obtain ⟨k, rfl⟩ := Int.eq_ofNat_of_zero_le b0
        rw [numS_ofNat]
        by_cases he : s.data.toList = digs B k
        · have e2 : s = ⟨⟨digs B k⟩⟩ := by
            apply ByteArray.ext
            apply Array.toList_inj.1
            rw [he]
          simp -implicitDefEqProofs (disch := first | assumption | (simp only [wnA]; done) | (simp only [wnA]; omega) | omega | fail) [wkA, retV, stabOk, dC, ev, fillD, pickCells, putAt, bnd, slD, List.getElem?_cons_zero, List.getElem?_cons_succ, dR.eq_20, Mem.cell, Mem.row, wmA, e2]
          exact h1 _ k (o1.trans o2) b1 he
        · have e2 : (digs B k == s.data.toList) = false := by simpa using fun e => he e.symm
          simp -implicitDefEqProofs (disch := first | assumption | (simp only [wnA]; done) | (simp only [wnA]; omega) | omega | fail) [wkA, retV, stabOk, dC, ev, fillD, pickCells, putAt, bnd, slD, List.getElem?_cons_zero, List.getElem?_cons_succ, dR.eq_20, Mem.cell, Mem.row, wmA, e2]
          refine h0 _ _ (o1.trans o2) fun k' hk' e => ?_
          have := hv k' (by omega) e
          have : k = k' := by omega
          subst this
          exact he e
      · simp -implicitDefEqProofs (disch := first | assumption | (simp only [wnA]; done) | (simp only [wnA]; omega) | omega | fail) [wkA, retV, stabOk, dC, ev, fillD, pickCells, putAt, bnd, slD, List.getElem?_cons_zero, List.getElem?_cons_succ, dR.eq_20, Mem.cell, Mem.row, wmA, b0, b1]
        exact h0 _ _ o1 (bad (.inr (by omega)))
    · simp -implicitDefEqProofs (disch := first | assumption | (simp only [wnA]; done) | (simp only [wnA]; omega) | omega | fail) [wkA, retV, stabOk, dC, ev, fillD, pickCells, putAt, bnd, slD, List.getElem?_cons_zero, List.getElem?_cons_succ, dR.eq_20, Mem.cell, Mem.row, wmA, b0]
      exact h0 _ _ o1 (bad (.inl (by omega)))
theorem c_num' {w0 : World} {m : Mem} {B : Nat} {most : Int} {s : ByteArray} {Q : Value → Mem → Prop} (hp : Part L0 m) (ht : Ten w0) (hE : ErrV w0) (hB : B = 8 ∨ B = 10) (hm : 0 ≤ most ∧ most < 9223372036854775808) (hs : s.size ≤ 140737488355328)
    (hq : ∀ m' v b, Old m m' → (b = true → ∃ k : Nat, v = (k : Int) ∧ (k : Int) ≤ most ∧ s.data.toList = digs B k) → (b = false → ∀ k : Nat, (k : Int) ≤ most → s.data.toList ≠ digs B k) → Q (.tuple ⟨[.int .i64 v, .bool b]⟩) m') :
    AbC Tryd.prog w0 26 [.string s, .int .i64 (B : Int), .int .i64 most] m Q :=
  c_num hp ht hE hB hm hs (fun m' v o h => hq m' v false o (fun e => by cases e) fun _ => h) fun m' k o h1 h2 => hq m' k true o (fun _ => ⟨k, rfl, h1, h2⟩) fun e => by cases e

theorem SlR.bs {m : Mem} {v : Value} {l : List UInt8} (h : SlR m 1 v (l.map byteV) l.length) : bstr m v = some (.string ⟨⟨l⟩⟩) := by
  obtain ⟨h1, ⟨h0, h2⟩ | ⟨i, o, L, rfl, h2, h3, h4⟩⟩ := h
  · have : l = [] := by simpa using h0
    subst this
    rcases h2 with rfl | rfl <;> rfl
  · simp only [Ab.bstr, Mem.row, h2]
    rw [Nat.mul_one] at h3 h4
    rw [if_pos h3, h4]
    simp only [bytesOf_mapN]

/-- What data hold of a file that may be told. -/
theorem tell_parts {f : Fl} (hf : mayB f = true) {a r : List UInt8} (h : padL (tellL f) = a ++ 0 :: r) (ha : (0 : UInt8) ∉ a) : a = f.nm.data.toList ∧ words 32 (Lib.trimRightB r 0) = [numS 10 f.size, numS 8 f.time, numS 8 f.mode] := by
  have hn : (0 : UInt8) ∉ f.nm.data.toList := nameB_mem (by simp only [mayB, Bool.and_eq_true] at hf; exact hf.1)
  unfold padL tellL at h
  generalize 128 - _ = K at h
  have h' : f.nm.data.toList ++ 0 :: ((numS 10 f.size ++ 32 :: (numS 8 f.time ++ 32 :: numS 8 f.mode)) ++ List.replicate K 0) = a ++ 0 :: r := by
    rw [← h]; simp
  obtain ⟨e1, e2⟩ := split_at hn ha h'
  refine ⟨e1.symm, ?_⟩
  have m1 := numS_mem (b := 10) (by omega) (by omega) f.size
  have m2 := numS_mem (b := 8) (by omega) (by omega) f.time
  have m3 := numS_mem (b := 8) (by omega) (by omega) f.mode
  have m4 := numS_pos (B := 8) (i := f.mode)
  generalize numS 10 f.size = x at *
  generalize numS 8 f.time = y at *
  generalize numS 8 f.mode = z at *
  have hz : ∃ z' c, z = z' ++ [c] ∧ c ≠ 0 := by
    refine ⟨z.dropLast, z.getLast (by intro e; rw [e] at m4; simp at m4), (List.dropLast_concat_getLast _).symm, ?_⟩
    exact (m3 _ (List.getLast_mem _)).1
  obtain ⟨z', c, rfl, hc⟩ := hz
  have ht : Lib.trimRightB r 0 = x ++ 32 :: (y ++ 32 :: (z' ++ [c])) := by
    rw [← e2]
    have := trim_pad (c := 0) (x := c) (a := x ++ 32 :: (y ++ 32 :: z')) hc K
    simp only [List.append_assoc, List.cons_append, List.nil_append] at this ⊢
    exact this
  have nx : (32 : UInt8) ∉ x := fun hh => (m1 _ hh).2 rfl
  have ny : (32 : UInt8) ∉ y := fun hh => (m2 _ hh).2 rfl
  have nz : (32 : UInt8) ∉ z' ++ [c] := fun hh => (m3 _ hh).2 rfl
  rw [ht]
  unfold words
  have hcount : (x ++ 32 :: (y ++ 32 :: (z' ++ [c]))).count 32 = 2 := by
    rw [List.count_append, List.count_cons_self, List.count_append, List.count_cons_self, List.count_eq_zero.2 nx, List.count_eq_zero.2 ny, List.count_eq_zero.2 nz]
  rw [hcount, splitK_hit nx, splitK_hit ny, splitK_zero]
theorem tell_of {ds a r x y z : List UInt8} {n1 n2 n3 : Nat} (hl : ds.length = 128) (h : ds = a ++ 0 :: r) (hw : words 32 (Lib.trimRightB r 0) = [x, y, z]) (hx : x = digs 10 n1) (hy : y = digs 8 n2) (hz : z = digs 8 n3) : ds = padL (tellL ⟨⟨⟨a⟩⟩, n1, n2, n3⟩) := by
  obtain ⟨k, hk⟩ := trim_cases 0 r
  have hj := splitK_join (c := 32) ((Lib.trimRightB r 0).count 32) (Lib.trimRightB r 0)
  unfold words at hw
  rw [hw] at hj
  simp only [joinC] at hj
  have ht : tellL ⟨⟨⟨a⟩⟩, n1, n2, n3⟩ = a ++ 0 :: Lib.trimRightB r 0 := by
    unfold tellL
    rw [numS_ofNat, numS_ofNat, numS_ofNat, ← hx, ← hy, ← hz, hj]
  unfold padL
  rw [ht]
  have hd : ds = (a ++ 0 :: Lib.trimRightB r 0) ++ List.replicate k 0 := by
    rw [h]
    conv => lhs; rw [hk]
    simp
  have hl2 := hl
  rw [hd, List.length_append, List.length_replicate] at hl2
  rw [show 128 - (a ++ 0 :: Lib.trimRightB r 0).length = k from by omega]
  exact hd
theorem tell_zero (f : Fl) : (0 : UInt8) ∈ padL (tellL f) := by
  unfold padL tellL; simp

theorem sx0 {b : Nat} : sidx 1 (.slice (some ⟨b, 0, none⟩) 3 1) (.int .i64 0) = some (.pointer (some ⟨b, 0, none⟩)) := rfl
theorem sx1 {b : Nat} : sidx 1 (.slice (some ⟨b, 0, none⟩) 3 1) (.int .i64 1) = some (.pointer (some ⟨b, 1, none⟩)) := rfl
theorem sx2 {b : Nat} : sidx 1 (.slice (some ⟨b, 0, none⟩) 3 1) (.int .i64 2) = some (.pointer (some ⟨b, 2, none⟩)) := rfl
theorem len3 {α : Type} {l : List α} (h : l.length = 3) : ∃ x y z, l = [x, y, z] := by
  match l, h with
  | [x, y, z], _ => exact ⟨x, y, z, rfl⟩
def zeroF : Value := .agg ⟨[.string ⟨#[]⟩, .int .i64 0, .int .i64 0, .int .i64 0]⟩
theorem c_Read {w0 : World} {m : Mem} {v : Value} {ds : List UInt8} {Q : Value → Mem → Prop} (hp : Part L0 m) (ht : Ten w0) (hE : ErrV w0) (hv : SlR m 1 v (ds.map byteV) ds.length) (hvb : ∀ b, blk v = some b → b < m.next)
    (h0 : ∀ m', Old m m' → (∀ f, mayB f = true → ds ≠ padL (tellL f)) → Q (.tuple ⟨[zeroF, .bool false]⟩) m')
    (h1 : ∀ m' f, Old m m' → mayB f = true → ds = padL (tellL f) → Q (.tuple ⟨[f.v, .bool true]⟩) m') :
    AbC Tryd.prog w0 14 [v] m Q := by
  refine AbC_fn ok14 (by simp) ?_
  have hv1 := hv.keep (m' := m.push (.own [.string ⟨#[]⟩, .int .i64 0, .int .i64 0, .int .i64 0] 25)) fun b hb => by
    have := hvb b hb
    rw [Mem.push_old _ _ this]
  have hbs := hv1.bs
  have o1 : Old m (m.push (.own [.string ⟨#[]⟩, .int .i64 0, .int .i64 0, .int .i64 0] 25)) := (Old.refl m).push _
  simp -implicitDefEqProofs (disch := first | assumption | (simp only [wnA]; done) | (simp only [wnA]; omega) | omega | fail) [rc14, ro14, wkA, retV, stabOk, dC, ev, fillD, pickCells, putAt, bnd, slD, List.getElem?_cons_zero, List.getElem?_cons_succ, dR.eq_20, Mem.cell, Mem.row, wmA, hv1.slen]
  by_cases hl : ds.length = 128
  · have hl' : (ds.length : Int) = 128 := by omega
    simp -implicitDefEqProofs (disch := first | assumption | (simp only [wnA]; done) | (simp only [wnA]; omega) | omega | fail) [wkA, retV, stabOk, dC, ev, fillD, pickCells, putAt, bnd, slD, List.getElem?_cons_zero, List.getElem?_cons_succ, dR.eq_20, Mem.cell, Mem.row, wmA, hl, rc14_2, hbs]
    have no : ∀ m', Old m m' → (∀ f, mayB f = true → ds ≠ padL (tellL f)) → ∀ ts' : Fr, ts' 2 = .pointer (some ⟨m.next, 0, none⟩) → m'.get m.next = .own [.string ⟨#[]⟩, .int .i64 0, .int .i64 0, .int .i64 0] 25 → m.next < m'.next → ts' 3 = .bool false → bodyA ro14 Q .ret ts' m' := fun m' o h ts' e2 eg en e3 => by
      simp -implicitDefEqProofs (disch := first | assumption | (simp only [wnA]; done) | (simp only [wnA]; omega) | omega | fail) [ro14, wkA, retV, stabOk, dC, ev, fillD, pickCells, putAt, bnd, slD, List.getElem?_cons_zero, List.getElem?_cons_succ, dR.eq_20, Mem.cell, Mem.row, wmA, e2, e3, eg]
      exact h0 m' o h
    refine c_Cut (s := ⟨⟨ds⟩⟩) (c := 0) (by show ds.length ≤ _; omega) (fun hz => ?_) fun a r hds ha => ?_
    · have nof : ∀ f, mayB f = true → ds ≠ padL (tellL f) := fun f _ e => by
        apply hz
        show 0 ∈ ds
        rw [e]; exact tell_zero f
      simp -implicitDefEqProofs (disch := first | assumption | (simp only [wnA]; done) | (simp only [wnA]; omega) | omega | fail) [wkA, retV, stabOk, dC, ev, fillD, pickCells, putAt, bnd, slD, List.getElem?_cons_zero, List.getElem?_cons_succ, dR.eq_20, Mem.cell, Mem.row, wmA]
      refine c_TrimR (s := ⟨#[]⟩) (c := 0) (by decide) (by decide) ?_
      simp -implicitDefEqProofs (disch := first | assumption | (simp only [wnA]; done) | (simp only [wnA]; omega) | omega | fail) [wkA, retV, stabOk, dC, ev, fillD, pickCells, putAt, bnd, slD, List.getElem?_cons_zero, List.getElem?_cons_succ, dR.eq_20, Mem.cell, Mem.row, wmA]
      refine c_Split (s := ⟨⟨Lib.trimRightB (ByteArray.data ⟨#[]⟩).toList 0⟩⟩) (c := 32) (by decide) ?_
      have hw : words 32 (ByteArray.data ⟨⟨Lib.trimRightB (ByteArray.data ⟨#[]⟩).toList 0⟩⟩).toList = [[]] := rfl
      rw [hw]
      simp -implicitDefEqProofs (disch := first | assumption | (simp only [wnA]; done) | (simp only [wnA]; omega) | omega | fail) [wkA, retV, stabOk, dC, ev, fillD, pickCells, putAt, bnd, slD, List.getElem?_cons_zero, List.getElem?_cons_succ, dR.eq_20, Mem.cell, Mem.row, wmA]
      refine SK_st (i := m.next) (o := 0) (by simp [wkA, retV, stabOk, dC, ev, fillD, pickCells, putAt, bnd, slD, List.getElem?_cons_zero, List.getElem?_cons_succ, dR.eq_20]) (e := 25) (by simp -implicitDefEqProofs (disch := first | assumption | (simp only [wnA]; done) | (simp only [wnA]; omega) | omega | fail) [Mem.cell, Mem.row, wmA]; rfl) (by simp) (by simp [wkA, retV, stabOk, dC, ev, fillD, pickCells, putAt, bnd, slD, List.getElem?_cons_zero, List.getElem?_cons_succ, dR.eq_20]) (by simp [wkA, retV, stabOk, dC, ev, fillD, pickCells, putAt, bnd, slD, List.getElem?_cons_zero, List.getElem?_cons_succ, dR.eq_20, oneC]) ?_
      simp -implicitDefEqProofs (disch := first | assumption | (simp only [wnA]; done) | (simp only [wnA]; omega) | omega | fail) [wkA, retV, stabOk, dC, ev, fillD, pickCells, putAt, bnd, slD, List.getElem?_cons_zero, List.getElem?_cons_succ, dR.eq_20, Mem.cell, Mem.row, wmA]
      exact h0 _ ((o1.push _).set (by omega) _) nof
    · have hds' : ds = a ++ 0 :: r := hds
      simp -implicitDefEqProofs (disch := first | assumption | (simp only [wnA]; done) | (simp only [wnA]; omega) | omega | fail) [wkA, retV, stabOk, dC, ev, fillD, pickCells, putAt, bnd, slD, List.getElem?_cons_zero, List.getElem?_cons_succ, dR.eq_20, Mem.cell, Mem.row, wmA]
      refine c_TrimR (s := ⟨⟨r⟩⟩) (c := 0) (by decide) (by show r.length ≤ _; have := congrArg List.length hds'; simp at this; omega) ?_
      simp -implicitDefEqProofs (disch := first | assumption | (simp only [wnA]; done) | (simp only [wnA]; omega) | omega | fail) [wkA, retV, stabOk, dC, ev, fillD, pickCells, putAt, bnd, slD, List.getElem?_cons_zero, List.getElem?_cons_succ, dR.eq_20, Mem.cell, Mem.row, wmA]
      have hlr : (Lib.trimRightB r 0).length ≤ 127 := by
        obtain ⟨k, hk⟩ := trim_cases 0 r
        have h2 := congrArg List.length hk
        have h3 := congrArg List.length hds'
        simp only [List.length_append, List.length_cons, List.length_replicate] at h2 h3
        omega
      refine c_Split (s := ⟨⟨Lib.trimRightB r 0⟩⟩) (c := 32) (by show (Lib.trimRightB r 0).length < _; omega) ?_
      have key : ∀ f, mayB f = true → ds = padL (tellL f) → a = f.nm.data.toList ∧ words 32 (Lib.trimRightB r 0) = [numS 10 f.size, numS 8 f.time, numS 8 f.mode] := fun f hf e => tell_parts hf (e.symm.trans hds') ha
      by_cases h3 : (words 32 (Lib.trimRightB r 0)).length = 3
      · obtain ⟨x, y, z, hw⟩ := len3 h3
        have hj := splitK_join (c := 32) ((Lib.trimRightB r 0).count 32) (Lib.trimRightB r 0)
        have hw2 := hw
        unfold words at hw2
        rw [hw2] at hj
        simp only [joinC] at hj
        rw [← hj] at hlr
        simp only [List.length_append, List.length_cons] at hlr
        rw [hw] at key
        have fin := fun n1 n2 n3 => tell_of (x := x) (y := y) (z := z) (n1 := n1) (n2 := n2) (n3 := n3) hl hds' hw
        have hwb : words 32 (ByteArray.data ⟨⟨Lib.trimRightB r 0⟩⟩).toList = [x, y, z] := hw
        rw [hwb]
        clear hw hw2 hj h3 hwb
        simp -implicitDefEqProofs (disch := first | assumption | (simp only [wnA]; done) | (simp only [wnA]; omega) | omega | fail) [wkA, retV, stabOk, dC, ev, fillD, pickCells, putAt, bnd, slD, List.getElem?_cons_zero, List.getElem?_cons_succ, dR.eq_20, Mem.cell, Mem.row, wmA, sx0, sx1, sx2, rc14_1]
        refine c_num' (B := 10) (most := 8192) (s := ⟨⟨x⟩⟩) (((o1.push _)).part hp) ht hE (by omega) (by omega) (by show x.length ≤ _; omega) fun m2 v1 b1 o2 y1 n1 => ?_
        have g0 : m2.get m.next = .own [.string ⟨#[]⟩, .int .i64 0, .int .i64 0, .int .i64 0] 25 := by rw [o2.2 _ (by simp only [Mem.push_nxt]; omega)]; simp -implicitDefEqProofs (disch := first | assumption | (simp only [wnA]; done) | (simp only [wnA]; omega) | omega | fail) [Mem.cell, Mem.row, wmA]
        have g1 : m2.get (m.next + 1) = .own [.string ⟨⟨x⟩⟩, .string ⟨⟨y⟩⟩, .string ⟨⟨z⟩⟩] 9 := by rw [o2.2 _ (by simp only [Mem.push_nxt]; omega)]; simp -implicitDefEqProofs (disch := first | assumption | (simp only [wnA]; done) | (simp only [wnA]; omega) | omega | fail) [Mem.cell, Mem.row, wmA]
        have l2 : m.next + 2 ≤ m2.next := by have := o2.1; simp only [Mem.push_nxt] at this; omega
        have oo2 : Old m m2 := Old.trans (o1.push _) o2
        clear o2
        simp -implicitDefEqProofs (disch := first | assumption | (simp only [wnA]; done) | (simp only [wnA]; omega) | omega | fail) [wkA, retV, stabOk, dC, ev, fillD, pickCells, putAt, bnd, slD, List.getElem?_cons_zero, List.getElem?_cons_succ, dR.eq_20, Mem.cell, Mem.row, wmA, sx0, sx1, sx2, g1]
        refine c_num' (B := 8) (most := 4294967295) (s := ⟨⟨y⟩⟩) (oo2.part hp) ht hE (by omega) (by omega) (by show y.length ≤ _; omega) fun m3 v2 b2 o3 y2 n2 => ?_
        rw [← o3.2 _ (by omega)] at g0 g1
        have l3 : m.next + 2 ≤ m3.next := by have := o3.1; omega
        have oo3 : Old m m3 := oo2.trans o3
        clear o3
        simp -implicitDefEqProofs (disch := first | assumption | (simp only [wnA]; done) | (simp only [wnA]; omega) | omega | fail) [wkA, retV, stabOk, dC, ev, fillD, pickCells, putAt, bnd, slD, List.getElem?_cons_zero, List.getElem?_cons_succ, dR.eq_20, Mem.cell, Mem.row, wmA, sx0, sx1, sx2, g1]
        refine c_num' (B := 8) (most := 65535) (s := ⟨⟨z⟩⟩) (oo3.part hp) ht hE (by omega) (by omega) (by show z.length ≤ _; omega) fun m4 v3 b3 o4 y3 n3 => ?_
        rw [← o4.2 _ (by omega)] at g0 g1
        have l4 : m.next + 2 ≤ m4.next := by have := o4.1; omega
        have oo4 : Old m m4 := oo3.trans o4
        clear o4
        simp -implicitDefEqProofs (disch := first | assumption | (simp only [wnA]; done) | (simp only [wnA]; omega) | omega | fail) [wkA, retV, stabOk, dC, ev, fillD, pickCells, putAt, bnd, slD, List.getElem?_cons_zero, List.getElem?_cons_succ, dR.eq_20, Mem.cell, Mem.row, wmA, sx0, sx1, sx2, g1]
        refine SK_st (i := m4.next) (o := 0) (by simp [wkA, retV, stabOk, dC, ev, fillD, pickCells, putAt, bnd, slD, List.getElem?_cons_zero, List.getElem?_cons_succ, dR.eq_20]) (e := 25) (by simp -implicitDefEqProofs (disch := first | assumption | (simp only [wnA]; done) | (simp only [wnA]; omega) | omega | fail) [Mem.cell, Mem.row, wmA]; rfl) (by simp) (by simp [wkA, retV, stabOk, dC, ev, fillD, pickCells, putAt, bnd, slD, List.getElem?_cons_zero, List.getElem?_cons_succ, dR.eq_20]) (by simp [wkA, retV, stabOk, dC, ev, fillD, pickCells, putAt, bnd, slD, List.getElem?_cons_zero, List.getElem?_cons_succ, dR.eq_20, oneC]) ?_
        simp -implicitDefEqProofs (disch := first | assumption | (simp only [wnA]; done) | (simp only [wnA]; omega) | omega | fail) [wkA, retV, stabOk, dC, ev, fillD, pickCells, putAt, bnd, slD, List.getElem?_cons_zero, List.getElem?_cons_succ, dR.eq_20, Mem.cell, Mem.row, wmA]
        have nof1 : b1 = false → ∀ f, mayB f = true → ds ≠ padL (tellL f) := fun hb f hf e => by
          have hk := (key f hf e).2
          simp only [mayB, Bool.and_eq_true, decide_eq_true_eq] at hf
          obtain ⟨k, hk2⟩ := Int.eq_ofNat_of_zero_le hf.2.1
          rw [hk2, numS_ofNat] at hk
          exact n1 hb k (by omega) (by simpa using congrArg List.head? hk)
        have nof2 : b2 = false → ∀ f, mayB f = true → ds ≠ padL (tellL f) := fun hb f hf e => by
          have hk := (key f hf e).2
          simp only [mayB, Bool.and_eq_true, decide_eq_true_eq] at hf
          obtain ⟨k, hk2⟩ := Int.eq_ofNat_of_zero_le hf.2.2.2.1
          rw [hk2, numS_ofNat] at hk
          simp only [List.cons.injEq] at hk
          exact n2 hb k (by omega) hk.2.1
        have nof3 : b3 = false → ∀ f, mayB f = true → ds ≠ padL (tellL f) := fun hb f hf e => by
          have hk := (key f hf e).2
          simp only [mayB, Bool.and_eq_true, decide_eq_true_eq] at hf
          obtain ⟨k, hk2⟩ := Int.eq_ofNat_of_zero_le hf.2.2.2.2.2.1
          rw [hk2, numS_ofNat] at hk
          simp only [List.cons.injEq] at hk
          exact n3 hb k (by omega) hk.2.2.1
        cases hb1 : b1 with
        | false =>
          simp -implicitDefEqProofs (disch := first | assumption | (simp only [wnA]; done) | (simp only [wnA]; omega) | omega | fail) [wkA, retV, stabOk, dC, ev, fillD, pickCells, putAt, bnd, slD, List.getElem?_cons_zero, List.getElem?_cons_succ, dR.eq_20, Mem.cell, Mem.row, wmA]
          refine SK_st (i := m.next) (o := 0) (by simp [wkA, retV, stabOk, dC, ev, fillD, pickCells, putAt, bnd, slD, List.getElem?_cons_zero, List.getElem?_cons_succ, dR.eq_20]) (e := 25) (by simp -implicitDefEqProofs (disch := first | assumption | (simp only [wnA]; done) | (simp only [wnA]; omega) | omega | fail) [Mem.cell, Mem.row, wmA, g0]; rfl) (by simp) (by simp [wkA, retV, stabOk, dC, ev, fillD, pickCells, putAt, bnd, slD, List.getElem?_cons_zero, List.getElem?_cons_succ, dR.eq_20]) (by simp [wkA, retV, stabOk, dC, ev, fillD, pickCells, putAt, bnd, slD, List.getElem?_cons_zero, List.getElem?_cons_succ, dR.eq_20, oneC]) ?_
          simp -implicitDefEqProofs (disch := first | assumption | (simp only [wnA]; done) | (simp only [wnA]; omega) | omega | fail) [wkA, retV, stabOk, dC, ev, fillD, pickCells, putAt, bnd, slD, List.getElem?_cons_zero, List.getElem?_cons_succ, dR.eq_20, Mem.cell, Mem.row, wmA]
          exact h0 _ (((oo4.push _).set (by omega) _).set (by omega) _) (nof1 hb1)
        | true =>
          cases hb2 : b2 with
          | false =>
            simp -implicitDefEqProofs (disch := first | assumption | (simp only [wnA]; done) | (simp only [wnA]; omega) | omega | fail) [wkA, retV, stabOk, dC, ev, fillD, pickCells, putAt, bnd, slD, List.getElem?_cons_zero, List.getElem?_cons_succ, dR.eq_20, Mem.cell, Mem.row, wmA]
            refine SK_st (i := m.next) (o := 0) (by simp [wkA, retV, stabOk, dC, ev, fillD, pickCells, putAt, bnd, slD, List.getElem?_cons_zero, List.getElem?_cons_succ, dR.eq_20]) (e := 25) (by simp -implicitDefEqProofs (disch := first | assumption | (simp only [wnA]; done) | (simp only [wnA]; omega) | omega | fail) [Mem.cell, Mem.row, wmA, g0]; rfl) (by simp) (by simp [wkA, retV, stabOk, dC, ev, fillD, pickCells, putAt, bnd, slD, List.getElem?_cons_zero, List.getElem?_cons_succ, dR.eq_20]) (by simp [wkA, retV, stabOk, dC, ev, fillD, pickCells, putAt, bnd, slD, List.getElem?_cons_zero, List.getElem?_cons_succ, dR.eq_20, oneC]) ?_
            simp -implicitDefEqProofs (disch := first | assumption | (simp only [wnA]; done) | (simp only [wnA]; omega) | omega | fail) [wkA, retV, stabOk, dC, ev, fillD, pickCells, putAt, bnd, slD, List.getElem?_cons_zero, List.getElem?_cons_succ, dR.eq_20, Mem.cell, Mem.row, wmA]
            exact h0 _ (((oo4.push _).set (by omega) _).set (by omega) _) (nof2 hb2)
          | true =>
            cases hb3 : b3 with
            | false =>
              simp -implicitDefEqProofs (disch := first | assumption | (simp only [wnA]; done) | (simp only [wnA]; omega) | omega | fail) [wkA, retV, stabOk, dC, ev, fillD, pickCells, putAt, bnd, slD, List.getElem?_cons_zero, List.getElem?_cons_succ, dR.eq_20, Mem.cell, Mem.row, wmA]
              refine SK_st (i := m.next) (o := 0) (by simp [wkA, retV, stabOk, dC, ev, fillD, pickCells, putAt, bnd, slD, List.getElem?_cons_zero, List.getElem?_cons_succ, dR.eq_20]) (e := 25) (by simp -implicitDefEqProofs (disch := first | assumption | (simp only [wnA]; done) | (simp only [wnA]; omega) | omega | fail) [Mem.cell, Mem.row, wmA, g0]; rfl) (by simp) (by simp [wkA, retV, stabOk, dC, ev, fillD, pickCells, putAt, bnd, slD, List.getElem?_cons_zero, List.getElem?_cons_succ, dR.eq_20]) (by simp [wkA, retV, stabOk, dC, ev, fillD, pickCells, putAt, bnd, slD, List.getElem?_cons_zero, List.getElem?_cons_succ, dR.eq_20, oneC]) ?_
              simp -implicitDefEqProofs (disch := first | assumption | (simp only [wnA]; done) | (simp only [wnA]; omega) | omega | fail) [wkA, retV, stabOk, dC, ev, fillD, pickCells, putAt, bnd, slD, List.getElem?_cons_zero, List.getElem?_cons_succ, dR.eq_20, Mem.cell, Mem.row, wmA]
              exact h0 _ (((oo4.push _).set (by omega) _).set (by omega) _) (nof3 hb3)
            | true =>
              obtain ⟨k1, rfl, u1, w1⟩ := y1 hb1
              obtain ⟨k2, rfl, u2, w2⟩ := y2 hb2
              obtain ⟨k3, rfl, u3, w3⟩ := y3 hb3
              have w1 : x = digs 10 k1 := w1
              have w2 : y = digs 8 k2 := w2
              have w3 : z = digs 8 k3 := w3
              have hfin := fin k1 k2 k3 w1 w2 w3
              simp -implicitDefEqProofs (disch := first | assumption | (simp only [wnA]; done) | (simp only [wnA]; omega) | omega | fail) [wkA, retV, stabOk, dC, ev, fillD, pickCells, putAt, bnd, slD, List.getElem?_cons_zero, List.getElem?_cons_succ, dR.eq_20, Mem.cell, Mem.row, wmA]
              refine c_May (f := ⟨⟨⟨a⟩⟩, k1, k2, k3⟩) (by show a.length ≤ _; have := congrArg List.length hds'; simp at this; omega) fun m5 o5 => ?_
              have gt : m5.get m4.next = .own [.string ⟨⟨a⟩⟩, .int .i64 k1, .int .i64 k2, .int .i64 k3] 25 := by rw [o5.2 _ (by simp only [Mem.push_nxt, Mem.set_nxt]; omega)]; simp -implicitDefEqProofs (disch := first | assumption | (simp only [wnA]; done) | (simp only [wnA]; omega) | omega | fail) [Mem.cell, Mem.row, wmA]
              have g0 : m5.get m.next = .own [.string ⟨#[]⟩, .int .i64 0, .int .i64 0, .int .i64 0] 25 := by rw [o5.2 _ (by simp only [Mem.push_nxt, Mem.set_nxt]; omega)]; simp -implicitDefEqProofs (disch := first | assumption | (simp only [wnA]; done) | (simp only [wnA]; omega) | omega | fail) [Mem.cell, Mem.row, wmA, g0]
              have oo5 : Old m m5 := Old.trans ((oo4.push _).set (by omega) _) o5
              have l5 : m4.next + 1 ≤ m5.next := by have := o5.1; simp only [Mem.push_nxt, Mem.set_nxt] at this; omega
              cases hm : mayB ⟨⟨⟨a⟩⟩, k1, k2, k3⟩ with
              | false =>
                simp -implicitDefEqProofs (disch := first | assumption | (simp only [wnA]; done) | (simp only [wnA]; omega) | omega | fail) [wkA, retV, stabOk, dC, ev, fillD, pickCells, putAt, bnd, slD, List.getElem?_cons_zero, List.getElem?_cons_succ, dR.eq_20, Mem.cell, Mem.row, wmA]
                refine SK_st (i := m.next) (o := 0) (by simp [wkA, retV, stabOk, dC, ev, fillD, pickCells, putAt, bnd, slD, List.getElem?_cons_zero, List.getElem?_cons_succ, dR.eq_20]) (e := 25) (by simp -implicitDefEqProofs (disch := first | assumption | (simp only [wnA]; done) | (simp only [wnA]; omega) | omega | fail) [Mem.cell, Mem.row, wmA, g0]; rfl) (by simp) (by simp [wkA, retV, stabOk, dC, ev, fillD, pickCells, putAt, bnd, slD, List.getElem?_cons_zero, List.getElem?_cons_succ, dR.eq_20]) (by simp [wkA, retV, stabOk, dC, ev, fillD, pickCells, putAt, bnd, slD, List.getElem?_cons_zero, List.getElem?_cons_succ, dR.eq_20, oneC]) ?_
                simp -implicitDefEqProofs (disch := first | assumption | (simp only [wnA]; done) | (simp only [wnA]; omega) | omega | fail) [wkA, retV, stabOk, dC, ev, fillD, pickCells, putAt, bnd, slD, List.getElem?_cons_zero, List.getElem?_cons_succ, dR.eq_20, Mem.cell, Mem.row, wmA]
                refine h0 _ (oo5.set (by omega) _) fun f hf e => ?_
                obtain ⟨q1, q2⟩ := key f hf e
                have hf' := hf
                simp only [mayB, Bool.and_eq_true, decide_eq_true_eq] at hf'
                simp only [List.cons.injEq] at q2
                rw [w1, ← numS_ofNat, w2, ← numS_ofNat, w3, ← numS_ofNat] at q2
                have i1 := numS_inj (b := 10) (by omega) (by omega) (by omega) (by omega) q2.1
                have i2 := numS_inj (b := 8) (by omega) (by omega) (by omega) (by omega) q2.2.1
                have i3 := numS_inj (b := 8) (by omega) (by omega) (by omega) (by omega) q2.2.2.1
                have i0 : (⟨⟨a⟩⟩ : ByteArray) = f.nm := by
                  apply ByteArray.ext
                  apply Array.toList_inj.1
                  exact q1
                rw [i0, i1, i2, i3] at hm
                have : mayB f = false := hm
                rw [hf] at this
                cases this
              | true =>
                simp -implicitDefEqProofs (disch := first | assumption | (simp only [wnA]; done) | (simp only [wnA]; omega) | omega | fail) [wkA, retV, stabOk, dC, ev, fillD, pickCells, putAt, bnd, slD, List.getElem?_cons_zero, List.getElem?_cons_succ, dR.eq_20, Mem.cell, Mem.row, wmA, rc14_0, gt]
                refine SK_st (i := m.next) (o := 0) (by simp [wkA, retV, stabOk, dC, ev, fillD, pickCells, putAt, bnd, slD, List.getElem?_cons_zero, List.getElem?_cons_succ, dR.eq_20]) (e := 25) (by simp -implicitDefEqProofs (disch := first | assumption | (simp only [wnA]; done) | (simp only [wnA]; omega) | omega | fail) [Mem.cell, Mem.row, wmA, g0]; rfl) (by simp) (by simp [wkA, retV, stabOk, dC, ev, fillD, pickCells, putAt, bnd, slD, List.getElem?_cons_zero, List.getElem?_cons_succ, dR.eq_20]) (by simp [wkA, retV, stabOk, dC, ev, fillD, pickCells, putAt, bnd, slD, List.getElem?_cons_zero, List.getElem?_cons_succ, dR.eq_20, oneC]) ?_
                simp -implicitDefEqProofs (disch := first | assumption | (simp only [wnA]; done) | (simp only [wnA]; omega) | omega | fail) [wkA, retV, stabOk, dC, ev, fillD, pickCells, putAt, bnd, slD, List.getElem?_cons_zero, List.getElem?_cons_succ, dR.eq_20, Mem.cell, Mem.row, wmA]
                exact h1 _ ⟨⟨⟨a⟩⟩, k1, k2, k3⟩ (oo5.set (by omega) _) hm hfin
      · have h3' : ¬ ((words 32 (Lib.trimRightB r 0)).length : Int) = 3 := by omega
        have nof : ∀ f, mayB f = true → ds ≠ padL (tellL f) := fun f hf e => by
          rw [(key f hf e).2] at h3
          exact h3 rfl
        simp -implicitDefEqProofs (disch := first | assumption | (simp only [wnA]; done) | (simp only [wnA]; omega) | omega | fail) [wkA, retV, stabOk, dC, ev, fillD, pickCells, putAt, bnd, slD, List.getElem?_cons_zero, List.getElem?_cons_succ, dR.eq_20, Mem.cell, Mem.row, wmA, bneT h3']
        refine SK_st (i := m.next) (o := 0) (by simp [wkA, retV, stabOk, dC, ev, fillD, pickCells, putAt, bnd, slD, List.getElem?_cons_zero, List.getElem?_cons_succ, dR.eq_20]) (e := 25) (by simp -implicitDefEqProofs (disch := first | assumption | (simp only [wnA]; done) | (simp only [wnA]; omega) | omega | fail) [Mem.cell, Mem.row, wmA]; rfl) (by simp) (by simp [wkA, retV, stabOk, dC, ev, fillD, pickCells, putAt, bnd, slD, List.getElem?_cons_zero, List.getElem?_cons_succ, dR.eq_20]) (by simp [wkA, retV, stabOk, dC, ev, fillD, pickCells, putAt, bnd, slD, List.getElem?_cons_zero, List.getElem?_cons_succ, dR.eq_20, oneC]) ?_
        simp -implicitDefEqProofs (disch := first | assumption | (simp only [wnA]; done) | (simp only [wnA]; omega) | omega | fail) [wkA, retV, stabOk, dC, ev, fillD, pickCells, putAt, bnd, slD, List.getElem?_cons_zero, List.getElem?_cons_succ, dR.eq_20, Mem.cell, Mem.row, wmA]
        exact h0 _ ((o1.push _).set (by omega) _) nof
  · have hl' : ¬ (ds.length : Int) = 128 := by omega
    simp -implicitDefEqProofs (disch := first | assumption | (simp only [wnA]; done) | (simp only [wnA]; omega) | omega | fail) [wkA, retV, stabOk, dC, ev, fillD, pickCells, putAt, bnd, slD, List.getElem?_cons_zero, List.getElem?_cons_succ, dR.eq_20, Mem.cell, Mem.row, wmA, bneT hl']
    refine SK_st (i := m.next) (o := 0) (by simp [wkA, retV, stabOk, dC, ev, fillD, pickCells, putAt, bnd, slD, List.getElem?_cons_zero, List.getElem?_cons_succ, dR.eq_20]) (e := 25) (by simp -implicitDefEqProofs (disch := first | assumption | (simp only [wnA]; done) | (simp only [wnA]; omega) | omega | fail) [Mem.cell, Mem.row, wmA]; rfl) (by simp) (by simp [wkA, retV, stabOk, dC, ev, fillD, pickCells, putAt, bnd, slD, List.getElem?_cons_zero, List.getElem?_cons_succ, dR.eq_20]) (by simp [wkA, retV, stabOk, dC, ev, fillD, pickCells, putAt, bnd, slD, List.getElem?_cons_zero, List.getElem?_cons_succ, dR.eq_20, oneC]) ?_
    simp -implicitDefEqProofs (disch := first | assumption | (simp only [wnA]; done) | (simp only [wnA]; omega) | omega | fail) [wkA, retV, stabOk, dC, ev, fillD, pickCells, putAt, bnd, slD, List.getElem?_cons_zero, List.getElem?_cons_succ, dR.eq_20, Mem.cell, Mem.row, wmA]
    refine h0 _ (o1.set (by omega) _) fun f hf e => hl ?_
    rw [e]; exact pad_len hf
end Go.Proofs.YtkpjbpfemkkheaaDoor.Ab
