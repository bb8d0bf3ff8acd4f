/- The law BatchEnds, as its statement says it: for every input; the listed variables hold what the program's text lays. -/
import Derived.Test.YthmhappejchilaaGreatDoorKBn4
import Derived.Test.YthmhappejchilaaGreatDoorProg
import Derived.WalkKit
import Derived.LaidEql
import Derived.Stop.Asserts
import Derived.RowKitTokens
import Derived.KernelRfl
import Derived.Test.YthmhappejchilaaGreatDoorCards
import Derived.Test.YthmhappejchilaaGreatDoorTie
import Derived.ProofKit
import Derived.OpenShut
import Derived.JoinedCond
import Derived.ChangeOld
import Derived.Deep.DeepHandedRow
import Derived.Deep.DeepWitnessRowRef
set_option linter.unusedVariables false
set_option linter.unusedSimpArgs false
namespace Go.Proofs.YthmhappejchilaaGreatDoor.Ab
open Go Go.RowKit
set_option maxHeartbeats 1000000
set_option maxRecDepth 100000
/-- A library's function that hands back a new slice of plain values. -/
theorem c_callsS {P : Program} {w0 : World} {m : Mem} {f : FuncId} {args cs : List Value} {e : TypeId} {Q : Value → Mem → Prop} (hcall : callOk P f = true) (ha : args.all (plainV 6) = true) (hcs : cs.all (plainV 6) = true) (hl : cs.length ≤ maxLen)
    (h : ∀ (G : Loc) (w : World), St P w0 G m w → Calls P f args.toArray w fun ev w' => ev = .returned (.slice (some ⟨w.heap.size, 0, none⟩) cs.length cs.length) ∧ w' = w.alloc (.cells ⟨cs⟩ e))
    (hq : Q (.slice (some ⟨m.next, 0, none⟩) cs.length 1) (m.push (.own cs e))) : AbC P w0 f args m Q := by
  intro G w args' hs hargs
  have ha' : ∀ u ∈ args, plainV 6 u = true := by simpa [List.all_eq_true] using ha
  have he : args' = args := VRs.plain_eq hargs fun u hu u' hr => VR.plain_eq 6 u u' (ha' u hu) hr
  subst he
  rw [run_callFunc_enter hcall]
  show Calls _ _ _ _ _
  refine (h G w hs).mono ?_
  rintro ev w' ⟨rfl, rfl⟩
  have hcs' : VRs G cs cs := by
    rw [List.all_eq_true] at hcs
    exact VRs.refl_of _ fun u hu => VR.plain 6 u (hcs u hu)
  have hn := own_new hs (e := e) (cs' := cs) (extra := []) (0, 0) (open00 _) hcs'
  refine ⟨_, rfl, _, _, _, hn.1, ?_, by simpa using hn.2, hq⟩
  exact .sl _ _ _ _ ((cs ++ []).length) _ _ _ (by simp) (Nat.le_refl _) hl (by simp)
def bchr (c : UInt8) : ByteArray := ⟨#[c]⟩
theorem c_lIndex1 {w0 : World} {m : Mem} {s : ByteArray} {c : UInt8} {Q : Value → Mem → Prop} (hq : Q (.int .i64 (Lib.indexByte s.data.toList c)) m) : AbC Tryz.prog w0 104 [.string s, .string (bchr c)] m Q :=
  c_calls (by kernel_rfl) rfl rfl (fun G w hst => (Tryz.stringslite_Index_one s c w).mono (by rintro e w' ⟨rfl, rfl⟩; exact ⟨rfl, Below.refl _ _⟩)) hq
theorem c_TrimR {w0 : World} {m : Mem} {s : ByteArray} {c : UInt8} {Q : Value → Mem → Prop} (hc : c.toNat < 128) (hs : s.size ≤ 9223372036854775807) (hq : Q (.string ⟨⟨Lib.trimRightB s.data.toList c⟩⟩) m) : AbC Tryz.prog w0 60 [.string s, .string (bchr c)] m Q :=
  c_calls (by kernel_rfl) rfl rfl (fun G w hst => (Tryz.strings_TrimRight_one s c hc w hs).mono (by rintro e w' ⟨rfl, rfl⟩; exact ⟨rfl, Below.refl _ _⟩)) hq
/-- strings.Cut at one byte. -/
theorem c_lCut {w0 : World} {m : Mem} {s : ByteArray} {c : UInt8} {Q : Value → Mem → Prop} (hs : s.size ≤ 9223372036854775807) (h0 : c ∉ s.data.toList → Q (.tuple ⟨[.string s, .string ⟨#[]⟩, .bool false]⟩) m)
    (h1 : ∀ a r, s.data.toList = a ++ c :: r → c ∉ a → Q (.tuple ⟨[.string ⟨⟨a⟩⟩, .string ⟨⟨r⟩⟩, .bool true]⟩) m) : AbC Tryz.prog w0 85 [.string s, .string (bchr c)] m Q := by
  refine AbC_fn ok85 (by simp) ?_
  simp -implicitDefEqProofs (disch := first | assumption | (simp only [wnA]; done) | (simp only [wnA]; omega) | omega | fail) [rc85, ro85, wkA, retV, stabOk, dC, ev, fillD, pickCells, putAt, bnd, slD, List.getElem?_cons_zero, List.getElem?_cons_succ, dR_sl, Mem.cell, Mem.row, wmA]
  refine c_lIndex1 ?_
  have hsz : (bchr c).size = 1 := rfl
  rcases ixB_cases c s.data.toList with ⟨e1, e2⟩ | ⟨a, r, e1, e2, e3⟩
  · rw [e1]
    simp -implicitDefEqProofs (disch := first | assumption | (simp only [wnA]; done) | (simp only [wnA]; omega) | omega | fail) [wkA, retV, stabOk, dC, ev, fillD, pickCells, putAt, bnd, slD, List.getElem?_cons_zero, List.getElem?_cons_succ, dR_sl, Mem.cell, Mem.row, wmA, rc85_0]
    exact h0 e2
  · rw [e3]
    have hl : s.data.toList.length = s.size := by simp
    have hl2 := congrArg List.length e1
    rw [hl] at hl2
    simp only [List.length_append, List.length_cons] at hl2
    have w1 : IntKind.i64.wrap ((a.length : Int) + 1) = ((a.length + 1 : Nat) : Int) := by rw [w64 (by omega)]; omega
    have x1 : s.extract 0 a.length = ⟨⟨a⟩⟩ := by
      apply ByteArray.ext
      apply Array.toList_inj.1
      rw [Lib.extract_from_zero, e1]
      simp
    have x2 : s.extract (a.length + 1) s.size = ⟨⟨r⟩⟩ := by
      rw [Lib.extract_eq, e1]
      have h1 : (a ++ c :: r).drop (a.length + 1) = r := by
        rw [show a.length + 1 = (a ++ [c]).length from by simp, show a ++ c :: r = (a ++ [c]) ++ r from by simp, List.drop_left]
      rw [h1, List.take_of_length_le (by omega)]
    have f1 : (a.length : Int) ≤ (s.size : Int) := by omega
    have f2 : a.length ≤ s.size := by omega
    have f3 : (a.length : Int) + 1 ≤ (s.size : Int) := by omega
    have f4 : a.length + 1 ≤ s.size := by omega
    have f5 : (0 : Int) ≤ (a.length : Int) + 1 := by omega
    simp -implicitDefEqProofs (disch := first | assumption | (simp only [wnA]; done) | (simp only [wnA]; omega) | omega | fail) [wkA, retV, stabOk, dC, ev, fillD, pickCells, putAt, bnd, slD, List.getElem?_cons_zero, List.getElem?_cons_succ, dR_sl, Mem.cell, Mem.row, wmA, w1, hsz, f1, f2, f3, f4, f5, x1, x2]
    exact h1 a r e1 e2
theorem c_Cut {w0 : World} {m : Mem} {s : ByteArray} {c : UInt8} {Q : Value → Mem → Prop} (hs : s.size ≤ 9223372036854775807) (h0 : c ∉ s.data.toList → Q (.tuple ⟨[.string s, .string ⟨#[]⟩, .bool false]⟩) m)
    (h1 : ∀ a r, s.data.toList = a ++ c :: r → c ∉ a → Q (.tuple ⟨[.string ⟨⟨a⟩⟩, .string ⟨⟨r⟩⟩, .bool true]⟩) m) : AbC Tryz.prog w0 58 [.string s, .string (bchr c)] m Q := by
  refine AbC_fn ok58 (by simp) ?_
  simp -implicitDefEqProofs (disch := first | assumption | (simp only [wnA]; done) | (simp only [wnA]; omega) | omega | fail) [rc58, ro58, wkA, retV, stabOk, dC, ev, fillD, pickCells, putAt, bnd, slD, List.getElem?_cons_zero, List.getElem?_cons_succ, dR_sl, Mem.cell, Mem.row, wmA]
  refine c_lCut hs (fun h => ?_) fun a r e h => ?_
  · simp -implicitDefEqProofs (disch := first | assumption | (simp only [wnA]; done) | (simp only [wnA]; omega) | omega | fail) [wkA, retV, stabOk, dC, ev, fillD, pickCells, putAt, bnd, slD, List.getElem?_cons_zero, List.getElem?_cons_succ, dR_sl, Mem.cell, Mem.row, wmA]
    exact h0 h
  · simp -implicitDefEqProofs (disch := first | assumption | (simp only [wnA]; done) | (simp only [wnA]; omega) | omega | fail) [wkA, retV, stabOk, dC, ev, fillD, pickCells, putAt, bnd, slD, List.getElem?_cons_zero, List.getElem?_cons_succ, dR_sl, Mem.cell, Mem.row, wmA]
    exact h1 a r e h
/-- The words of a text that is split at a byte. -/
def words (c : UInt8) (l : List UInt8) : List (List UInt8) := Lib.splitK [c] 0 (l.count c) l
theorem splitB_words (c : UInt8) (s : ByteArray) : Lib.splitB (bchr c) 0 (Lib.countB s (bchr c)) s = (words c s.data.toList).map fun l => ⟨⟨l⟩⟩ := by
  have h := Lib.splitB_data (bchr c) 0 (Lib.countB s (bchr c)) s
  have hc : Lib.countB s (bchr c) = s.data.toList.count c := Lib.count_one c _
  have h2 := congrArg (List.map fun l : List UInt8 => (⟨⟨l⟩⟩ : ByteArray)) h
  rw [List.map_map] at h2
  have h3 : ((fun l : List UInt8 => (⟨⟨l⟩⟩ : ByteArray)) ∘ fun x : ByteArray => x.data.toList) = id := by funext x; rfl
  rw [h3, List.map_id] at h2
  rw [h2, hc]
  rfl
theorem c_genSplit {w0 : World} {m : Mem} {s : ByteArray} {c : UInt8} {Q : Value → Mem → Prop} (hs : s.size < 4294967281)
    (hq : Q (.slice (some ⟨m.next, 0, none⟩) (words c s.data.toList).length 1) (m.push (.own ((words c s.data.toList).map fun l => .string ⟨⟨l⟩⟩) 9))) : AbC Tryz.prog w0 86 [.string s, .string (bchr c), .int .i64 0, .int .i64 (-1)] m Q := by
  have hcnt : Lib.countB s (bchr c) = s.data.toList.count c := Lib.count_one c _
  have hle : Lib.countB s (bchr c) ≤ s.size := by
    rw [hcnt]
    have := List.count_le_length (a := c) (l := s.data.toList)
    simpa using this
  have hlen := Lib.splitB_all (bchr c) (Nat.le_refl 1) 0 _ s rfl
  have hw := splitB_words c s
  have hcl : ((words c s.data.toList).map fun l => Value.string ⟨⟨l⟩⟩).length = Lib.countB s (bchr c) + 1 := by
    rw [← hlen, hw]; simp
  refine c_callsS (cs := (words c s.data.toList).map fun l => .string ⟨⟨l⟩⟩) (e := 9) (by kernel_rfl) rfl (by rw [List.all_eq_true]; intro u hu; obtain ⟨l, -, rfl⟩ := List.mem_map.1 hu; rfl) (by rw [hcl]; unfold maxLen; omega) (fun G w hst => ?_) (by simpa using hq)
  have h := Any.strings_genSplit_core Tryz.lays221 (by kernel_rfl) s (bchr c) 0 (-1) (Lib.countB s (bchr c) + 1) w hs (Nat.le_refl 1) (Nat.zero_le _)
    (fun x cc _ => by
      have := Tryz.strings_Index_one x c (w.alloc (.cells cc (Tryz.lays221_ren.t 9)))
      rw [← Lib.index_one] at this
      exact this)
    (by
      have := Tryz.strings_Count_one s c w
      rw [show (Lib.countByte s.data.toList c : Nat) = Lib.countB s (bchr c) from hcnt.symm] at this
      exact this) (by decide) (by decide) (by rw [if_pos (by decide)]; omega)
  refine h.mono ?_
  rintro e w' ⟨rfl, rfl⟩
  rw [Nat.add_sub_cancel, hlen, hcl]
  refine ⟨rfl, ?_⟩
  have e2 : Lib.cellsOf (Lib.splitB (bchr c) 0 (Lib.countB s (bchr c)) s) (Lib.countB s (bchr c) + 1) = ((Lib.splitB (bchr c) 0 (Lib.countB s (bchr c)) s).map Value.string).toArray := by rw [← hlen]; exact Lib.cellsOf_full _
  rw [e2, hw, List.map_map]
  rfl
theorem c_Split {w0 : World} {m : Mem} {s : ByteArray} {c : UInt8} {Q : Value → Mem → Prop} (hs : s.size < 4294967281)
    (hq : Q (.slice (some ⟨m.next, 0, none⟩) (words c s.data.toList).length 1) (m.push (.own ((words c s.data.toList).map fun l => .string ⟨⟨l⟩⟩) 9))) : AbC Tryz.prog w0 59 [.string s, .string (bchr c)] m Q := by
  refine AbC_fn ok59 (by simp) ?_
  simp -implicitDefEqProofs (disch := first | assumption | (simp only [wnA]; done) | (simp only [wnA]; omega) | omega | fail) [rc59, ro59, wkA, retV, stabOk, dC, ev, fillD, pickCells, putAt, bnd, slD, List.getElem?_cons_zero, List.getElem?_cons_succ, dR_sl, Mem.cell, Mem.row, wmA]
  refine c_genSplit hs ?_
  simp -implicitDefEqProofs (disch := first | assumption | (simp only [wnA]; done) | (simp only [wnA]; omega) | omega | fail) [wkA, retV, stabOk, dC, ev, fillD, pickCells, putAt, bnd, slD, List.getElem?_cons_zero, List.getElem?_cons_succ, dR_sl, Mem.cell, Mem.row, wmA]
  exact hq
end Go.Proofs.YthmhappejchilaaGreatDoor.Ab

set_option linter.unusedVariables false
set_option linter.unusedSimpArgs false
namespace Go.Proofs.YthmhappejchilaaGreatDoor.Ab
open Go Go.RowKit
set_option maxHeartbeats 1000000
set_option maxRecDepth 100000
theorem c_num {w0 : World} {m : Mem} {B : Nat} {most : Int} {s : ByteArray} {Q : Value → Mem → Prop} (hp : Part L0 m) (ht : Ten w0) (hE : ErrV w0) (hB : B = 8 ∨ B = 10) (hm : 0 ≤ most ∧ most < 9223372036854775808) (hs : s.size ≤ 140737488355328)
    (h0 : ∀ m' v, Old m m' → (∀ k : Nat, (k : Int) ≤ most → s.data.toList ≠ digs B k) → Q (.tuple ⟨[.int .i64 v, .bool false]⟩) m')
    (h1 : ∀ m' (k : Nat), Old m m' → (k : Int) ≤ most → s.data.toList = digs B k → Q (.tuple ⟨[.int .i64 (k : Nat), .bool true]⟩) m') :
    AbC Tryz.prog w0 61 [.string s, .int .i64 (B : Int), .int .i64 most] m Q := by
  refine AbC_fn ok61 (by simp) ?_
  simp -implicitDefEqProofs (disch := first | assumption | (simp only [wnA]; done) | (simp only [wnA]; omega) | omega | fail) [rc61, ro61, wkA, retV, stabOk, dC, ev, fillD, pickCells, putAt, bnd, slD, List.getElem?_cons_zero, List.getElem?_cons_succ, dR.eq_20, Mem.cell, Mem.row, wmA]
  refine c_ParseInt hE (by omega) hs (fun m1 v p o1 hn => ?_) fun m1 v o1 hv => ?_
  · simp -implicitDefEqProofs (disch := first | assumption | (simp only [wnA]; done) | (simp only [wnA]; omega) | omega | fail) [wkA, retV, stabOk, dC, ev, fillD, pickCells, putAt, bnd, slD, List.getElem?_cons_zero, List.getElem?_cons_succ, dR.eq_20, Mem.cell, Mem.row, wmA]
    exact h0 _ _ o1 fun k hk => hn k (by omega)
  · have bad : (v < 0 ∨ most < v) → ∀ k : Nat, (k : Int) ≤ most → s.data.toList ≠ digs B k := fun hb k hk e => by
      have := hv k (by omega) e
      omega
    by_cases b0 : 0 ≤ v
    · by_cases b1 : v ≤ most
      · simp -implicitDefEqProofs (disch := first | assumption | (simp only [wnA]; done) | (simp only [wnA]; omega) | omega | fail) [wkA, retV, stabOk, dC, ev, fillD, pickCells, putAt, bnd, slD, List.getElem?_cons_zero, List.getElem?_cons_succ, dR.eq_20, Mem.cell, Mem.row, wmA, b0, b1]
        refine c_FormatInt (B := B) (Old.part hp o1) ht (by omega) (by omega) fun m2 o2 => ?_
        obtain ⟨k, rfl⟩ := Int.eq_ofNat_of_zero_le b0
        rw [numS_ofNat]
        by_cases he : s.data.toList = digs B k
        · have e2 : s = ⟨⟨digs B k⟩⟩ := by
            apply ByteArray.ext
            apply Array.toList_inj.1
            rw [he]
          simp -implicitDefEqProofs (disch := first | assumption | (simp only [wnA]; done) | (simp only [wnA]; omega) | omega | fail) [wkA, retV, stabOk, dC, ev, fillD, pickCells, putAt, bnd, slD, List.getElem?_cons_zero, List.getElem?_cons_succ, dR.eq_20, Mem.cell, Mem.row, wmA, e2]
          exact h1 _ k (o1.trans o2) b1 he
        · have e2 : (digs B k == s.data.toList) = false := by simpa using fun e => he e.symm
          simp -implicitDefEqProofs (disch := first | assumption | (simp only [wnA]; done) | (simp only [wnA]; omega) | omega | fail) [wkA, retV, stabOk, dC, ev, fillD, pickCells, putAt, bnd, slD, List.getElem?_cons_zero, List.getElem?_cons_succ, dR.eq_20, Mem.cell, Mem.row, wmA, e2]
          refine h0 _ _ (o1.trans o2) fun k' hk' e => ?_
          have := hv k' (by omega) e
          have : k = k' := by omega
          subst this
          exact he e
      · simp -implicitDefEqProofs (disch := first | assumption | (simp only [wnA]; done) | (simp only [wnA]; omega) | omega | fail) [wkA, retV, stabOk, dC, ev, fillD, pickCells, putAt, bnd, slD, List.getElem?_cons_zero, List.getElem?_cons_succ, dR.eq_20, Mem.cell, Mem.row, wmA, b0, b1]
        exact h0 _ _ o1 (bad (.inr (by omega)))
    · simp -implicitDefEqProofs (disch := first | assumption | (simp only [wnA]; done) | (simp only [wnA]; omega) | omega | fail) [wkA, retV, stabOk, dC, ev, fillD, pickCells, putAt, bnd, slD, List.getElem?_cons_zero, List.getElem?_cons_succ, dR.eq_20, Mem.cell, Mem.row, wmA, b0]
      exact h0 _ _ o1 (bad (.inl (by omega)))
theorem c_num' {w0 : World} {m : Mem} {B : Nat} {most : Int} {s : ByteArray} {Q : Value → Mem → Prop} (hp : Part L0 m) (ht : Ten w0) (hE : ErrV w0) (hB : B = 8 ∨ B = 10) (hm : 0 ≤ most ∧ most < 9223372036854775808) (hs : s.size ≤ 140737488355328)
    (hq : ∀ m' v b, Old m m' → (b = true → ∃ k : Nat, v = (k : Int) ∧ (k : Int) ≤ most ∧ s.data.toList = digs B k) → (b = false → ∀ k : Nat, (k : Int) ≤ most → s.data.toList ≠ digs B k) → Q (.tuple ⟨[.int .i64 v, .bool b]⟩) m') :
    AbC Tryz.prog w0 61 [.string s, .int .i64 (B : Int), .int .i64 most] m Q :=
  c_num hp ht hE hB hm hs (fun m' v o h => hq m' v false o (fun e => by cases e) fun _ => h) fun m' k o h1 h2 => hq m' k true o (fun _ => ⟨k, rfl, h1, h2⟩) fun e => by cases e
theorem SlR.bs {m : Mem} {v : Value} {l : List UInt8} (h : SlR m 1 v (l.map byteV) l.length) : bstr m v = some (.string ⟨⟨l⟩⟩) := by
  obtain ⟨h1, ⟨h0, h2⟩ | ⟨i, o, L, rfl, h2, h3, h4⟩⟩ := h
  · have : l = [] := by simpa using h0
    subst this
    rcases h2 with rfl | rfl <;> rfl
  · simp only [Ab.bstr, Mem.row, h2]
    rw [Nat.mul_one] at h3 h4
    rw [if_pos h3, h4]
    simp only [bytesOf_mapN]
/-- What data hold of a file that may be told. -/
theorem tell_parts {f : Fl} (hf : mayB f = true) {a r : List UInt8} (h : padL (tellL f) = a ++ 0 :: r) (ha : (0 : UInt8) ∉ a) : a = f.nm.data.toList ∧ words 32 (Lib.trimRightB r 0) = [numS 10 f.size, numS 8 f.time, numS 8 f.mode] := by
  have hn : (0 : UInt8) ∉ f.nm.data.toList := nameB_mem (by simp only [mayB, Bool.and_eq_true] at hf; exact hf.1)
  unfold padL tellL at h
  generalize 128 - _ = K at h
  have h' : f.nm.data.toList ++ 0 :: ((numS 10 f.size ++ 32 :: (numS 8 f.time ++ 32 :: numS 8 f.mode)) ++ List.replicate K 0) = a ++ 0 :: r := by
    rw [← h]; simp
  obtain ⟨e1, e2⟩ := split_at hn ha h'
  refine ⟨e1.symm, ?_⟩
  have m1 := numS_mem (b := 10) (by omega) (by omega) f.size
  have m2 := numS_mem (b := 8) (by omega) (by omega) f.time
  have m3 := numS_mem (b := 8) (by omega) (by omega) f.mode
  have m4 := numS_pos (B := 8) (i := f.mode)
  generalize numS 10 f.size = x at *
  generalize numS 8 f.time = y at *
  generalize numS 8 f.mode = z at *
  have hz : ∃ z' c, z = z' ++ [c] ∧ c ≠ 0 := by
    refine ⟨z.dropLast, z.getLast (by intro e; rw [e] at m4; simp at m4), (List.dropLast_concat_getLast _).symm, ?_⟩
    exact (m3 _ (List.getLast_mem _)).1
  obtain ⟨z', c, rfl, hc⟩ := hz
  have ht : Lib.trimRightB r 0 = x ++ 32 :: (y ++ 32 :: (z' ++ [c])) := by
    rw [← e2]
    have := trim_pad (c := 0) (x := c) (a := x ++ 32 :: (y ++ 32 :: z')) hc K
    simp only [List.append_assoc, List.cons_append, List.nil_append] at this ⊢
    exact this
  have nx : (32 : UInt8) ∉ x := fun hh => (m1 _ hh).2 rfl
  have ny : (32 : UInt8) ∉ y := fun hh => (m2 _ hh).2 rfl
  have nz : (32 : UInt8) ∉ z' ++ [c] := fun hh => (m3 _ hh).2 rfl
  rw [ht]
  unfold words
  have hcount : (x ++ 32 :: (y ++ 32 :: (z' ++ [c]))).count 32 = 2 := by
    rw [List.count_append, List.count_cons_self, List.count_append, List.count_cons_self, List.count_eq_zero.2 nx, List.count_eq_zero.2 ny, List.count_eq_zero.2 nz]
  rw [hcount, splitK_hit nx, splitK_hit ny, splitK_zero]
theorem tell_of {ds a r x y z : List UInt8} {n1 n2 n3 : Nat} (hl : ds.length = 128) (h : ds = a ++ 0 :: r) (hw : words 32 (Lib.trimRightB r 0) = [x, y, z]) (hx : x = digs 10 n1) (hy : y = digs 8 n2) (hz : z = digs 8 n3) : ds = padL (tellL ⟨⟨⟨a⟩⟩, n1, n2, n3⟩) := by
  obtain ⟨k, hk⟩ := trim_cases 0 r
  have hj := splitK_join (c := 32) ((Lib.trimRightB r 0).count 32) (Lib.trimRightB r 0)
  unfold words at hw
  rw [hw] at hj
  simp only [joinC] at hj
  have ht : tellL ⟨⟨⟨a⟩⟩, n1, n2, n3⟩ = a ++ 0 :: Lib.trimRightB r 0 := by
    unfold tellL
    rw [numS_ofNat, numS_ofNat, numS_ofNat, ← hx, ← hy, ← hz, hj]
  unfold padL
  rw [ht]
  have hd : ds = (a ++ 0 :: Lib.trimRightB r 0) ++ List.replicate k 0 := by
    rw [h]
    conv => lhs; rw [hk]
    simp
  have hl2 := hl
  rw [hd, List.length_append, List.length_replicate] at hl2
  rw [show 128 - (a ++ 0 :: Lib.trimRightB r 0).length = k from by omega]
  exact hd
theorem tell_zero (f : Fl) : (0 : UInt8) ∈ padL (tellL f) := by
  unfold padL tellL; simp
theorem sx0 {b : Nat} : sidx 1 (.slice (some ⟨b, 0, none⟩) 3 1) (.int .i64 0) = some (.pointer (some ⟨b, 0, none⟩)) := rfl
theorem sx1 {b : Nat} : sidx 1 (.slice (some ⟨b, 0, none⟩) 3 1) (.int .i64 1) = some (.pointer (some ⟨b, 1, none⟩)) := rfl
theorem sx2 {b : Nat} : sidx 1 (.slice (some ⟨b, 0, none⟩) 3 1) (.int .i64 2) = some (.pointer (some ⟨b, 2, none⟩)) := rfl
theorem len3 {α : Type} {l : List α} (h : l.length = 3) : ∃ x y z, l = [x, y, z] := by
  match l, h with
  | [x, y, z], _ => exact ⟨x, y, z, rfl⟩
def zeroF : Value := .agg ⟨[.string ⟨#[]⟩, .int .i64 0, .int .i64 0, .int .i64 0]⟩
theorem c_Read {w0 : World} {m : Mem} {v : Value} {ds : List UInt8} {Q : Value → Mem → Prop} (hp : Part L0 m) (ht : Ten w0) (hE : ErrV w0) (hv : SlR m 1 v (ds.map byteV) ds.length) (hvb : ∀ b, blk v = some b → b < m.next)
    (h0 : ∀ m', Old m m' → (∀ f, mayB f = true → ds ≠ padL (tellL f)) → Q (.tuple ⟨[zeroF, .bool false]⟩) m')
    (h1 : ∀ m' f, Old m m' → mayB f = true → ds = padL (tellL f) → Q (.tuple ⟨[f.v, .bool true]⟩) m') :
    AbC Tryz.prog w0 37 [v] m Q := by
  refine AbC_fn ok37 (by simp) ?_
  have hv1 := hv.keep (m' := m.push (.own [.string ⟨#[]⟩, .int .i64 0, .int .i64 0, .int .i64 0] 30)) fun b hb => by
    have := hvb b hb
    rw [Mem.push_old _ _ this]
  have hbs := hv1.bs
  have o1 : Old m (m.push (.own [.string ⟨#[]⟩, .int .i64 0, .int .i64 0, .int .i64 0] 30)) := (Old.refl m).push _
  simp -implicitDefEqProofs (disch := first | assumption | (simp only [wnA]; done) | (simp only [wnA]; omega) | omega | fail) [rc37, ro37, wkA, retV, stabOk, dC, ev, fillD, pickCells, putAt, bnd, slD, List.getElem?_cons_zero, List.getElem?_cons_succ, dR.eq_20, Mem.cell, Mem.row, wmA, hv1.slen]
  by_cases hl : ds.length = 128
  · have hl' : (ds.length : Int) = 128 := by omega
    simp -implicitDefEqProofs (disch := first | assumption | (simp only [wnA]; done) | (simp only [wnA]; omega) | omega | fail) [wkA, retV, stabOk, dC, ev, fillD, pickCells, putAt, bnd, slD, List.getElem?_cons_zero, List.getElem?_cons_succ, dR.eq_20, Mem.cell, Mem.row, wmA, hl, rc37_2, hbs]
    have no : ∀ m', Old m m' → (∀ f, mayB f = true → ds ≠ padL (tellL f)) → ∀ ts' : Fr, ts' 2 = .pointer (some ⟨m.next, 0, none⟩) → m'.get m.next = .own [.string ⟨#[]⟩, .int .i64 0, .int .i64 0, .int .i64 0] 30 → m.next < m'.next → ts' 3 = .bool false → bodyA ro37 Q .ret ts' m' := fun m' o h ts' e2 eg en e3 => by
      simp -implicitDefEqProofs (disch := first | assumption | (simp only [wnA]; done) | (simp only [wnA]; omega) | omega | fail) [ro37, wkA, retV, stabOk, dC, ev, fillD, pickCells, putAt, bnd, slD, List.getElem?_cons_zero, List.getElem?_cons_succ, dR.eq_20, Mem.cell, Mem.row, wmA, e2, e3, eg]
      exact h0 m' o h
    refine c_Cut (s := ⟨⟨ds⟩⟩) (c := 0) (by show ds.length ≤ _; omega) (fun hz => ?_) fun a r hds ha => ?_
    · have nof : ∀ f, mayB f = true → ds ≠ padL (tellL f) := fun f _ e => by
        apply hz
        show 0 ∈ ds
        rw [e]; exact tell_zero f
      simp -implicitDefEqProofs (disch := first | assumption | (simp only [wnA]; done) | (simp only [wnA]; omega) | omega | fail) [wkA, retV, stabOk, dC, ev, fillD, pickCells, putAt, bnd, slD, List.getElem?_cons_zero, List.getElem?_cons_succ, dR.eq_20, Mem.cell, Mem.row, wmA]
      refine c_TrimR (s := ⟨#[]⟩) (c := 0) (by decide) (by decide) ?_
      simp -implicitDefEqProofs (disch := first | assumption | (simp only [wnA]; done) | (simp only [wnA]; omega) | omega | fail) [wkA, retV, stabOk, dC, ev, fillD, pickCells, putAt, bnd, slD, List.getElem?_cons_zero, List.getElem?_cons_succ, dR.eq_20, Mem.cell, Mem.row, wmA]
      refine c_Split (s := ⟨⟨Lib.trimRightB (ByteArray.data ⟨#[]⟩).toList 0⟩⟩) (c := 32) (by decide) ?_
      have hw : words 32 (ByteArray.data ⟨⟨Lib.trimRightB (ByteArray.data ⟨#[]⟩).toList 0⟩⟩).toList = [[]] := rfl
      rw [hw]
      simp -implicitDefEqProofs (disch := first | assumption | (simp only [wnA]; done) | (simp only [wnA]; omega) | omega | fail) [wkA, retV, stabOk, dC, ev, fillD, pickCells, putAt, bnd, slD, List.getElem?_cons_zero, List.getElem?_cons_succ, dR.eq_20, Mem.cell, Mem.row, wmA]
      refine SK_st (i := m.next) (o := 0) (by simp [wkA, retV, stabOk, dC, ev, fillD, pickCells, putAt, bnd, slD, List.getElem?_cons_zero, List.getElem?_cons_succ, dR.eq_20]) (e := 30) (by simp -implicitDefEqProofs (disch := first | assumption | (simp only [wnA]; done) | (simp only [wnA]; omega) | omega | fail) [Mem.cell, Mem.row, wmA]; rfl) (by simp) (by simp [wkA, retV, stabOk, dC, ev, fillD, pickCells, putAt, bnd, slD, List.getElem?_cons_zero, List.getElem?_cons_succ, dR.eq_20]) (by simp [wkA, retV, stabOk, dC, ev, fillD, pickCells, putAt, bnd, slD, List.getElem?_cons_zero, List.getElem?_cons_succ, dR.eq_20, oneC]) ?_
      simp -implicitDefEqProofs (disch := first | assumption | (simp only [wnA]; done) | (simp only [wnA]; omega) | omega | fail) [wkA, retV, stabOk, dC, ev, fillD, pickCells, putAt, bnd, slD, List.getElem?_cons_zero, List.getElem?_cons_succ, dR.eq_20, Mem.cell, Mem.row, wmA]
      exact h0 _ ((o1.push _).set (by omega) _) nof
    · have hds' : ds = a ++ 0 :: r := hds
      simp -implicitDefEqProofs (disch := first | assumption | (simp only [wnA]; done) | (simp only [wnA]; omega) | omega | fail) [wkA, retV, stabOk, dC, ev, fillD, pickCells, putAt, bnd, slD, List.getElem?_cons_zero, List.getElem?_cons_succ, dR.eq_20, Mem.cell, Mem.row, wmA]
      refine c_TrimR (s := ⟨⟨r⟩⟩) (c := 0) (by decide) (by show r.length ≤ _; have := congrArg List.length hds'; simp at this; omega) ?_
      simp -implicitDefEqProofs (disch := first | assumption | (simp only [wnA]; done) | (simp only [wnA]; omega) | omega | fail) [wkA, retV, stabOk, dC, ev, fillD, pickCells, putAt, bnd, slD, List.getElem?_cons_zero, List.getElem?_cons_succ, dR.eq_20, Mem.cell, Mem.row, wmA]
      have hlr : (Lib.trimRightB r 0).length ≤ 127 := by
        obtain ⟨k, hk⟩ := trim_cases 0 r
        have h2 := congrArg List.length hk
        have h3 := congrArg List.length hds'
        simp only [List.length_append, List.length_cons, List.length_replicate] at h2 h3
        omega
      refine c_Split (s := ⟨⟨Lib.trimRightB r 0⟩⟩) (c := 32) (by show (Lib.trimRightB r 0).length < _; omega) ?_
      have key : ∀ f, mayB f = true → ds = padL (tellL f) → a = f.nm.data.toList ∧ words 32 (Lib.trimRightB r 0) = [numS 10 f.size, numS 8 f.time, numS 8 f.mode] := fun f hf e => tell_parts hf (e.symm.trans hds') ha
      by_cases h3 : (words 32 (Lib.trimRightB r 0)).length = 3
      · obtain ⟨x, y, z, hw⟩ := len3 h3
        have hj := splitK_join (c := 32) ((Lib.trimRightB r 0).count 32) (Lib.trimRightB r 0)
        have hw2 := hw
        unfold words at hw2
        rw [hw2] at hj
        simp only [joinC] at hj
        rw [← hj] at hlr
        simp only [List.length_append, List.length_cons] at hlr
        rw [hw] at key
        have fin := fun n1 n2 n3 => tell_of (x := x) (y := y) (z := z) (n1 := n1) (n2 := n2) (n3 := n3) hl hds' hw
        have hwb : words 32 (ByteArray.data ⟨⟨Lib.trimRightB r 0⟩⟩).toList = [x, y, z] := hw
        rw [hwb]
        clear hw hw2 hj h3 hwb
        simp -implicitDefEqProofs (disch := first | assumption | (simp only [wnA]; done) | (simp only [wnA]; omega) | omega | fail) [wkA, retV, stabOk, dC, ev, fillD, pickCells, putAt, bnd, slD, List.getElem?_cons_zero, List.getElem?_cons_succ, dR.eq_20, Mem.cell, Mem.row, wmA, sx0, sx1, sx2, rc37_1]
        refine c_num' (B := 10) (most := 8192) (s := ⟨⟨x⟩⟩) (((o1.push _)).part hp) ht hE (by omega) (by omega) (by show x.length ≤ _; omega) fun m2 v1 b1 o2 y1 n1 => ?_
        have g0 : m2.get m.next = .own [.string ⟨#[]⟩, .int .i64 0, .int .i64 0, .int .i64 0] 30 := by rw [o2.2 _ (by simp only [Mem.push_nxt]; omega)]; simp -implicitDefEqProofs (disch := first | assumption | (simp only [wnA]; done) | (simp only [wnA]; omega) | omega | fail) [Mem.cell, Mem.row, wmA]
        have g1 : m2.get (m.next + 1) = .own [.string ⟨⟨x⟩⟩, .string ⟨⟨y⟩⟩, .string ⟨⟨z⟩⟩] 9 := by rw [o2.2 _ (by simp only [Mem.push_nxt]; omega)]; simp -implicitDefEqProofs (disch := first | assumption | (simp only [wnA]; done) | (simp only [wnA]; omega) | omega | fail) [Mem.cell, Mem.row, wmA]
        have l2 : m.next + 2 ≤ m2.next := by have := o2.1; simp only [Mem.push_nxt] at this; omega
        have oo2 : Old m m2 := Old.trans (o1.push _) o2
        clear o2
        simp -implicitDefEqProofs (disch := first | assumption | (simp only [wnA]; done) | (simp only [wnA]; omega) | omega | fail) [wkA, retV, stabOk, dC, ev, fillD, pickCells, putAt, bnd, slD, List.getElem?_cons_zero, List.getElem?_cons_succ, dR.eq_20, Mem.cell, Mem.row, wmA, sx0, sx1, sx2, g1]
        refine c_num' (B := 8) (most := 4294967295) (s := ⟨⟨y⟩⟩) (oo2.part hp) ht hE (by omega) (by omega) (by show y.length ≤ _; omega) fun m3 v2 b2 o3 y2 n2 => ?_
        rw [← o3.2 _ (by omega)] at g0 g1
        have l3 : m.next + 2 ≤ m3.next := by have := o3.1; omega
        have oo3 : Old m m3 := oo2.trans o3
        clear o3
        simp -implicitDefEqProofs (disch := first | assumption | (simp only [wnA]; done) | (simp only [wnA]; omega) | omega | fail) [wkA, retV, stabOk, dC, ev, fillD, pickCells, putAt, bnd, slD, List.getElem?_cons_zero, List.getElem?_cons_succ, dR.eq_20, Mem.cell, Mem.row, wmA, sx0, sx1, sx2, g1]
        refine c_num' (B := 8) (most := 65535) (s := ⟨⟨z⟩⟩) (oo3.part hp) ht hE (by omega) (by omega) (by show z.length ≤ _; omega) fun m4 v3 b3 o4 y3 n3 => ?_
        rw [← o4.2 _ (by omega)] at g0 g1
        have l4 : m.next + 2 ≤ m4.next := by have := o4.1; omega
        have oo4 : Old m m4 := oo3.trans o4
        clear o4
        simp -implicitDefEqProofs (disch := first | assumption | (simp only [wnA]; done) | (simp only [wnA]; omega) | omega | fail) [wkA, retV, stabOk, dC, ev, fillD, pickCells, putAt, bnd, slD, List.getElem?_cons_zero, List.getElem?_cons_succ, dR.eq_20, Mem.cell, Mem.row, wmA, sx0, sx1, sx2, g1]
        refine SK_st (i := m4.next) (o := 0) (by simp [wkA, retV, stabOk, dC, ev, fillD, pickCells, putAt, bnd, slD, List.getElem?_cons_zero, List.getElem?_cons_succ, dR.eq_20]) (e := 30) (by simp -implicitDefEqProofs (disch := first | assumption | (simp only [wnA]; done) | (simp only [wnA]; omega) | omega | fail) [Mem.cell, Mem.row, wmA]; rfl) (by simp) (by simp [wkA, retV, stabOk, dC, ev, fillD, pickCells, putAt, bnd, slD, List.getElem?_cons_zero, List.getElem?_cons_succ, dR.eq_20]) (by simp [wkA, retV, stabOk, dC, ev, fillD, pickCells, putAt, bnd, slD, List.getElem?_cons_zero, List.getElem?_cons_succ, dR.eq_20, oneC]) ?_
        simp -implicitDefEqProofs (disch := first | assumption | (simp only [wnA]; done) | (simp only [wnA]; omega) | omega | fail) [wkA, retV, stabOk, dC, ev, fillD, pickCells, putAt, bnd, slD, List.getElem?_cons_zero, List.getElem?_cons_succ, dR.eq_20, Mem.cell, Mem.row, wmA]
        have nof1 : b1 = false → ∀ f, mayB f = true → ds ≠ padL (tellL f) := fun hb f hf e => by
          have hk := (key f hf e).2
          simp only [mayB, Bool.and_eq_true, decide_eq_true_eq] at hf
          obtain ⟨k, hk2⟩ := Int.eq_ofNat_of_zero_le hf.2.1
          rw [hk2, numS_ofNat] at hk
          exact n1 hb k (by omega) (by simpa using congrArg List.head? hk)
        have nof2 : b2 = false → ∀ f, mayB f = true → ds ≠ padL (tellL f) := fun hb f hf e => by
          have hk := (key f hf e).2
          simp only [mayB, Bool.and_eq_true, decide_eq_true_eq] at hf
          obtain ⟨k, hk2⟩ := Int.eq_ofNat_of_zero_le hf.2.2.2.1
          rw [hk2, numS_ofNat] at hk
          simp only [List.cons.injEq] at hk
          exact n2 hb k (by omega) hk.2.1
        have nof3 : b3 = false → ∀ f, mayB f = true → ds ≠ padL (tellL f) := fun hb f hf e => by
          have hk := (key f hf e).2
          simp only [mayB, Bool.and_eq_true, decide_eq_true_eq] at hf
          obtain ⟨k, hk2⟩ := Int.eq_ofNat_of_zero_le hf.2.2.2.2.2.1
          rw [hk2, numS_ofNat] at hk
          simp only [List.cons.injEq] at hk
          exact n3 hb k (by omega) hk.2.2.1
        cases hb1 : b1 with
        | false =>
          simp -implicitDefEqProofs (disch := first | assumption | (simp only [wnA]; done) | (simp only [wnA]; omega) | omega | fail) [wkA, retV, stabOk, dC, ev, fillD, pickCells, putAt, bnd, slD, List.getElem?_cons_zero, List.getElem?_cons_succ, dR.eq_20, Mem.cell, Mem.row, wmA]
          refine SK_st (i := m.next) (o := 0) (by simp [wkA, retV, stabOk, dC, ev, fillD, pickCells, putAt, bnd, slD, List.getElem?_cons_zero, List.getElem?_cons_succ, dR.eq_20]) (e := 30) (by simp -implicitDefEqProofs (disch := first | assumption | (simp only [wnA]; done) | (simp only [wnA]; omega) | omega | fail) [Mem.cell, Mem.row, wmA, g0]; rfl) (by simp) (by simp [wkA, retV, stabOk, dC, ev, fillD, pickCells, putAt, bnd, slD, List.getElem?_cons_zero, List.getElem?_cons_succ, dR.eq_20]) (by simp [wkA, retV, stabOk, dC, ev, fillD, pickCells, putAt, bnd, slD, List.getElem?_cons_zero, List.getElem?_cons_succ, dR.eq_20, oneC]) ?_
          simp -implicitDefEqProofs (disch := first | assumption | (simp only [wnA]; done) | (simp only [wnA]; omega) | omega | fail) [wkA, retV, stabOk, dC, ev, fillD, pickCells, putAt, bnd, slD, List.getElem?_cons_zero, List.getElem?_cons_succ, dR.eq_20, Mem.cell, Mem.row, wmA]
          exact h0 _ (((oo4.push _).set (by omega) _).set (by omega) _) (nof1 hb1)
        | true =>
          cases hb2 : b2 with
          | false =>
            simp -implicitDefEqProofs (disch := first | assumption | (simp only [wnA]; done) | (simp only [wnA]; omega) | omega | fail) [wkA, retV, stabOk, dC, ev, fillD, pickCells, putAt, bnd, slD, List.getElem?_cons_zero, List.getElem?_cons_succ, dR.eq_20, Mem.cell, Mem.row, wmA]
            refine SK_st (i := m.next) (o := 0) (by simp [wkA, retV, stabOk, dC, ev, fillD, pickCells, putAt, bnd, slD, List.getElem?_cons_zero, List.getElem?_cons_succ, dR.eq_20]) (e := 30) (by simp -implicitDefEqProofs (disch := first | assumption | (simp only [wnA]; done) | (simp only [wnA]; omega) | omega | fail) [Mem.cell, Mem.row, wmA, g0]; rfl) (by simp) (by simp [wkA, retV, stabOk, dC, ev, fillD, pickCells, putAt, bnd, slD, List.getElem?_cons_zero, List.getElem?_cons_succ, dR.eq_20]) (by simp [wkA, retV, stabOk, dC, ev, fillD, pickCells, putAt, bnd, slD, List.getElem?_cons_zero, List.getElem?_cons_succ, dR.eq_20, oneC]) ?_
            simp -implicitDefEqProofs (disch := first | assumption | (simp only [wnA]; done) | (simp only [wnA]; omega) | omega | fail) [wkA, retV, stabOk, dC, ev, fillD, pickCells, putAt, bnd, slD, List.getElem?_cons_zero, List.getElem?_cons_succ, dR.eq_20, Mem.cell, Mem.row, wmA]
            exact h0 _ (((oo4.push _).set (by omega) _).set (by omega) _) (nof2 hb2)
          | true =>
            cases hb3 : b3 with
            | false =>
              simp -implicitDefEqProofs (disch := first | assumption | (simp only [wnA]; done) | (simp only [wnA]; omega) | omega | fail) [wkA, retV, stabOk, dC, ev, fillD, pickCells, putAt, bnd, slD, List.getElem?_cons_zero, List.getElem?_cons_succ, dR.eq_20, Mem.cell, Mem.row, wmA]
              refine SK_st (i := m.next) (o := 0) (by simp [wkA, retV, stabOk, dC, ev, fillD, pickCells, putAt, bnd, slD, List.getElem?_cons_zero, List.getElem?_cons_succ, dR.eq_20]) (e := 30) (by simp -implicitDefEqProofs (disch := first | assumption | (simp only [wnA]; done) | (simp only [wnA]; omega) | omega | fail) [Mem.cell, Mem.row, wmA, g0]; rfl) (by simp) (by simp [wkA, retV, stabOk, dC, ev, fillD, pickCells, putAt, bnd, slD, List.getElem?_cons_zero, List.getElem?_cons_succ, dR.eq_20]) (by simp [wkA, retV, stabOk, dC, ev, fillD, pickCells, putAt, bnd, slD, List.getElem?_cons_zero, List.getElem?_cons_succ, dR.eq_20, oneC]) ?_
              simp -implicitDefEqProofs (disch := first | assumption | (simp only [wnA]; done) | (simp only [wnA]; omega) | omega | fail) [wkA, retV, stabOk, dC, ev, fillD, pickCells, putAt, bnd, slD, List.getElem?_cons_zero, List.getElem?_cons_succ, dR.eq_20, Mem.cell, Mem.row, wmA]
              exact h0 _ (((oo4.push _).set (by omega) _).set (by omega) _) (nof3 hb3)
            | true =>
              obtain ⟨k1, rfl, u1, w1⟩ := y1 hb1
              obtain ⟨k2, rfl, u2, w2⟩ := y2 hb2
              obtain ⟨k3, rfl, u3, w3⟩ := y3 hb3
              have w1 : x = digs 10 k1 := w1
              have w2 : y = digs 8 k2 := w2
              have w3 : z = digs 8 k3 := w3
              have hfin := fin k1 k2 k3 w1 w2 w3
              simp -implicitDefEqProofs (disch := first | assumption | (simp only [wnA]; done) | (simp only [wnA]; omega) | omega | fail) [wkA, retV, stabOk, dC, ev, fillD, pickCells, putAt, bnd, slD, List.getElem?_cons_zero, List.getElem?_cons_succ, dR.eq_20, Mem.cell, Mem.row, wmA]
              refine c_May (f := ⟨⟨⟨a⟩⟩, k1, k2, k3⟩) (by show a.length ≤ _; have := congrArg List.length hds'; simp at this; omega) fun m5 o5 => ?_
              have gt : m5.get m4.next = .own [.string ⟨⟨a⟩⟩, .int .i64 k1, .int .i64 k2, .int .i64 k3] 30 := by rw [o5.2 _ (by simp only [Mem.push_nxt, Mem.set_nxt]; omega)]; simp -implicitDefEqProofs (disch := first | assumption | (simp only [wnA]; done) | (simp only [wnA]; omega) | omega | fail) [Mem.cell, Mem.row, wmA]
              have g0 : m5.get m.next = .own [.string ⟨#[]⟩, .int .i64 0, .int .i64 0, .int .i64 0] 30 := by rw [o5.2 _ (by simp only [Mem.push_nxt, Mem.set_nxt]; omega)]; simp -implicitDefEqProofs (disch := first | assumption | (simp only [wnA]; done) | (simp only [wnA]; omega) | omega | fail) [Mem.cell, Mem.row, wmA, g0]
              have oo5 : Old m m5 := Old.trans ((oo4.push _).set (by omega) _) o5
              have l5 : m4.next + 1 ≤ m5.next := by have := o5.1; simp only [Mem.push_nxt, Mem.set_nxt] at this; omega
              cases hm : mayB ⟨⟨⟨a⟩⟩, k1, k2, k3⟩ with
              | false =>
                simp -implicitDefEqProofs (disch := first | assumption | (simp only [wnA]; done) | (simp only [wnA]; omega) | omega | fail) [wkA, retV, stabOk, dC, ev, fillD, pickCells, putAt, bnd, slD, List.getElem?_cons_zero, List.getElem?_cons_succ, dR.eq_20, Mem.cell, Mem.row, wmA]
                refine SK_st (i := m.next) (o := 0) (by simp [wkA, retV, stabOk, dC, ev, fillD, pickCells, putAt, bnd, slD, List.getElem?_cons_zero, List.getElem?_cons_succ, dR.eq_20]) (e := 30) (by simp -implicitDefEqProofs (disch := first | assumption | (simp only [wnA]; done) | (simp only [wnA]; omega) | omega | fail) [Mem.cell, Mem.row, wmA, g0]; rfl) (by simp) (by simp [wkA, retV, stabOk, dC, ev, fillD, pickCells, putAt, bnd, slD, List.getElem?_cons_zero, List.getElem?_cons_succ, dR.eq_20]) (by simp [wkA, retV, stabOk, dC, ev, fillD, pickCells, putAt, bnd, slD, List.getElem?_cons_zero, List.getElem?_cons_succ, dR.eq_20, oneC]) ?_
                simp -implicitDefEqProofs (disch := first | assumption | (simp only [wnA]; done) | (simp only [wnA]; omega) | omega | fail) [wkA, retV, stabOk, dC, ev, fillD, pickCells, putAt, bnd, slD, List.getElem?_cons_zero, List.getElem?_cons_succ, dR.eq_20, Mem.cell, Mem.row, wmA]
                refine h0 _ (oo5.set (by omega) _) fun f hf e => ?_
                obtain ⟨q1, q2⟩ := key f hf e
                have hf' := hf
                simp only [mayB, Bool.and_eq_true, decide_eq_true_eq] at hf'
                simp only [List.cons.injEq] at q2
                rw [w1, ← numS_ofNat, w2, ← numS_ofNat, w3, ← numS_ofNat] at q2
                have i1 := numS_inj (b := 10) (by omega) (by omega) (by omega) (by omega) q2.1
                have i2 := numS_inj (b := 8) (by omega) (by omega) (by omega) (by omega) q2.2.1
                have i3 := numS_inj (b := 8) (by omega) (by omega) (by omega) (by omega) q2.2.2.1
                have i0 : (⟨⟨a⟩⟩ : ByteArray) = f.nm := by
                  apply ByteArray.ext
                  apply Array.toList_inj.1
                  exact q1
                rw [i0, i1, i2, i3] at hm
                have : mayB f = false := hm
                rw [hf] at this
                cases this
              | true =>
                simp -implicitDefEqProofs (disch := first | assumption | (simp only [wnA]; done) | (simp only [wnA]; omega) | omega | fail) [wkA, retV, stabOk, dC, ev, fillD, pickCells, putAt, bnd, slD, List.getElem?_cons_zero, List.getElem?_cons_succ, dR.eq_20, Mem.cell, Mem.row, wmA, rc37_0, gt]
                refine SK_st (i := m.next) (o := 0) (by simp [wkA, retV, stabOk, dC, ev, fillD, pickCells, putAt, bnd, slD, List.getElem?_cons_zero, List.getElem?_cons_succ, dR.eq_20]) (e := 30) (by simp -implicitDefEqProofs (disch := first | assumption | (simp only [wnA]; done) | (simp only [wnA]; omega) | omega | fail) [Mem.cell, Mem.row, wmA, g0]; rfl) (by simp) (by simp [wkA, retV, stabOk, dC, ev, fillD, pickCells, putAt, bnd, slD, List.getElem?_cons_zero, List.getElem?_cons_succ, dR.eq_20]) (by simp [wkA, retV, stabOk, dC, ev, fillD, pickCells, putAt, bnd, slD, List.getElem?_cons_zero, List.getElem?_cons_succ, dR.eq_20, oneC]) ?_
                simp -implicitDefEqProofs (disch := first | assumption | (simp only [wnA]; done) | (simp only [wnA]; omega) | omega | fail) [wkA, retV, stabOk, dC, ev, fillD, pickCells, putAt, bnd, slD, List.getElem?_cons_zero, List.getElem?_cons_succ, dR.eq_20, Mem.cell, Mem.row, wmA]
                exact h1 _ ⟨⟨⟨a⟩⟩, k1, k2, k3⟩ (oo5.set (by omega) _) hm hfin
      · have h3' : ¬ ((words 32 (Lib.trimRightB r 0)).length : Int) = 3 := by omega
        have nof : ∀ f, mayB f = true → ds ≠ padL (tellL f) := fun f hf e => by
          rw [(key f hf e).2] at h3
          exact h3 rfl
        simp -implicitDefEqProofs (disch := first | assumption | (simp only [wnA]; done) | (simp only [wnA]; omega) | omega | fail) [wkA, retV, stabOk, dC, ev, fillD, pickCells, putAt, bnd, slD, List.getElem?_cons_zero, List.getElem?_cons_succ, dR.eq_20, Mem.cell, Mem.row, wmA, bneT h3']
        refine SK_st (i := m.next) (o := 0) (by simp [wkA, retV, stabOk, dC, ev, fillD, pickCells, putAt, bnd, slD, List.getElem?_cons_zero, List.getElem?_cons_succ, dR.eq_20]) (e := 30) (by simp -implicitDefEqProofs (disch := first | assumption | (simp only [wnA]; done) | (simp only [wnA]; omega) | omega | fail) [Mem.cell, Mem.row, wmA]; rfl) (by simp) (by simp [wkA, retV, stabOk, dC, ev, fillD, pickCells, putAt, bnd, slD, List.getElem?_cons_zero, List.getElem?_cons_succ, dR.eq_20]) (by simp [wkA, retV, stabOk, dC, ev, fillD, pickCells, putAt, bnd, slD, List.getElem?_cons_zero, List.getElem?_cons_succ, dR.eq_20, oneC]) ?_
        simp -implicitDefEqProofs (disch := first | assumption | (simp only [wnA]; done) | (simp only [wnA]; omega) | omega | fail) [wkA, retV, stabOk, dC, ev, fillD, pickCells, putAt, bnd, slD, List.getElem?_cons_zero, List.getElem?_cons_succ, dR.eq_20, Mem.cell, Mem.row, wmA]
        exact h0 _ ((o1.push _).set (by omega) _) nof
  · have hl' : ¬ (ds.length : Int) = 128 := by omega
    simp -implicitDefEqProofs (disch := first | assumption | (simp only [wnA]; done) | (simp only [wnA]; omega) | omega | fail) [wkA, retV, stabOk, dC, ev, fillD, pickCells, putAt, bnd, slD, List.getElem?_cons_zero, List.getElem?_cons_succ, dR.eq_20, Mem.cell, Mem.row, wmA, bneT hl']
    refine SK_st (i := m.next) (o := 0) (by simp [wkA, retV, stabOk, dC, ev, fillD, pickCells, putAt, bnd, slD, List.getElem?_cons_zero, List.getElem?_cons_succ, dR.eq_20]) (e := 30) (by simp -implicitDefEqProofs (disch := first | assumption | (simp only [wnA]; done) | (simp only [wnA]; omega) | omega | fail) [Mem.cell, Mem.row, wmA]; rfl) (by simp) (by simp [wkA, retV, stabOk, dC, ev, fillD, pickCells, putAt, bnd, slD, List.getElem?_cons_zero, List.getElem?_cons_succ, dR.eq_20]) (by simp [wkA, retV, stabOk, dC, ev, fillD, pickCells, putAt, bnd, slD, List.getElem?_cons_zero, List.getElem?_cons_succ, dR.eq_20, oneC]) ?_
    simp -implicitDefEqProofs (disch := first | assumption | (simp only [wnA]; done) | (simp only [wnA]; omega) | omega | fail) [wkA, retV, stabOk, dC, ev, fillD, pickCells, putAt, bnd, slD, List.getElem?_cons_zero, List.getElem?_cons_succ, dR.eq_20, Mem.cell, Mem.row, wmA]
    refine h0 _ (o1.set (by omega) _) fun f hf e => hl ?_
    rw [e]; exact pad_len hf
end Go.Proofs.YthmhappejchilaaGreatDoor.Ab

set_option linter.unusedVariables false
set_option linter.unusedSimpArgs false
namespace Go.Proofs.YthmhappejchilaaGreatDoor.Ab
open Go Go.RowKit
set_option maxHeartbeats 1000000
set_option maxRecDepth 100000
theorem c_Empty {w0 : World} {m : Mem} {Q : Value → Mem → Prop} (hq : Q (.slice (some ⟨m.next, 0, none⟩) 128 1) (m.push (.own ((List.replicate 128 (0 : UInt8)).map byteV) 5))) : AbC Tryz.prog w0 41 [] m Q := by
  refine AbC_fn ok41 (by simp) ?_
  simp -implicitDefEqProofs (disch := first | assumption | (simp only [wnA]; done) | (simp only [wnA]; omega) | omega | fail) [rc41, ro41, wkA, retV, stabOk, dC, ev, fillD, pickCells, putAt, bnd, slD, List.getElem?_cons_zero, List.getElem?_cons_succ, dR.eq_20, Mem.cell, Mem.row, wmA]
  rw [SK_mks (a := 128) (by simp [wkA, retV, stabOk, dC, ev, fillD, pickCells, putAt, bnd, slD, List.getElem?_cons_zero, List.getElem?_cons_succ, dR.eq_20]) (by simp [wkA, retV, stabOk, dC, ev, fillD, pickCells, putAt, bnd, slD, List.getElem?_cons_zero, List.getElem?_cons_succ, dR.eq_20]) (by omega) (by simp only [maxLen]; omega)]
  have e : List.replicate 128 (Value.int .u8 0) = (List.replicate 128 (0 : UInt8)).map byteV := by rw [List.map_replicate]; rfl
  rw [e]
  generalize (List.replicate 128 (0 : UInt8)).map byteV = L at *
  simp -implicitDefEqProofs (disch := first | assumption | (simp only [wnA]; done) | (simp only [wnA]; omega) | omega | fail) [wkA, retV, stabOk, dC, ev, fillD, pickCells, putAt, bnd, slD, List.getElem?_cons_zero, List.getElem?_cons_succ, dR.eq_20, Mem.cell, Mem.row, wmA]
  exact hq
def endsB (l : List UInt8) : Bool := l.length == 128 && l.head? == some 0
theorem ends_at {m : Mem} {v : Value} {l : List UInt8} (hv : SlR m 1 v (l.map byteV) l.length) (hl : l.length = 128) : ∃ i o L c, v = .slice (some ⟨i, o, none⟩) 128 1 ∧ sidx 1 (.slice (some ⟨i, o, none⟩) 128 1) (.int .i64 0) = some (.pointer (some ⟨i, o, none⟩)) ∧ (m.get i).cells? = some L ∧ (∃ h : o < L.length, L[o] = byteV c) ∧ L[o]? = some (byteV c) ∧ endsB l = ((c.toNat : Int) == 0) := by
  obtain ⟨i, o, L, e, h2, h3, -, h5⟩ := hv.at (j := 0) (by omega)
  have h6 := h5 0 (by omega)
  simp only [Nat.mul_one, Nat.add_zero, Nat.zero_mul, List.getElem?_map] at h6
  obtain ⟨c, r, rfl⟩ : ∃ c r, l = c :: r := by
    cases l with
    | nil => simp at hl
    | cons c r => exact ⟨c, r, rfl⟩
  simp only [List.getElem?_cons_zero, Option.map_some] at h6
  have hs0 : sidx 1 (.slice (some ⟨i, o, none⟩) (c :: r).length 1) (.int .i64 0) = some (.pointer (some ⟨i, o, none⟩)) := by
    have := sidx_at (b := i) (o := o) (n := (c :: r).length) (c := 1) (j := 0) (sz := 1) (k := .i64) (by simp)
    simpa using this
  rw [hl] at hs0 e
  have hc8 : c.toNat < 256 := c.toNat_lt
  have e0 : endsB (c :: r) = ((c.toNat : Int) == 0) := by
    simp only [endsB, hl, List.head?_cons]
    simp
    rw [Bool.eq_iff_iff, beq_iff_eq, beq_iff_eq]
    constructor
    · intro h; rw [h]; rfl
    · intro h; exact UInt8.toNat_inj.1 (by show c.toNat = 0; omega)
  exact ⟨i, o, L, c, e, hs0, h2, List.getElem?_eq_some_iff.1 h6, h6, e0⟩
theorem c_Ends {w0 : World} {m : Mem} {v : Value} {l : List UInt8} {Q : Value → Mem → Prop} (hv : SlR m 1 v (l.map byteV) l.length) (hq : Q (.bool (endsB l)) m) : AbC Tryz.prog w0 78 [v] m Q := by
  refine AbC_fn ok78 (by simp) ?_
  have hq' := fun b (h : endsB l = b) => h ▸ hq
  simp -implicitDefEqProofs (disch := first | assumption | (simp only [wnA]; done) | (simp only [wnA]; omega) | omega | fail) [rc78, ro78, wkA, retV, stabOk, dC, ev, fillD, pickCells, putAt, bnd, slD, List.getElem?_cons_zero, List.getElem?_cons_succ, dR.eq_20, Mem.cell, Mem.row, wmA, hv.slen]
  by_cases hl : l.length = 128
  · obtain ⟨i, o, L, c, rfl, hs0, h2, ⟨hlt', h6'⟩, h6, e0⟩ := ends_at hv hl
    simp -implicitDefEqProofs (disch := first | assumption | (simp only [wnA]; done) | (simp only [wnA]; omega) | omega | fail) [wkA, retV, stabOk, dC, ev, fillD, pickCells, putAt, bnd, slD, List.getElem?_cons_zero, List.getElem?_cons_succ, dR.eq_20, Mem.cell, Mem.row, wmA, hl, hs0, h2, h6, h6', byteV]
    exact hq' _ e0
  · have hl' : ¬ (l.length : Int) = 128 := by omega
    simp -implicitDefEqProofs (disch := first | assumption | (simp only [wnA]; done) | (simp only [wnA]; omega) | omega | fail) [wkA, retV, stabOk, dC, ev, fillD, pickCells, putAt, bnd, slD, List.getElem?_cons_zero, List.getElem?_cons_succ, dR.eq_20, Mem.cell, Mem.row, wmA, beqF hl']
    exact hq' _ (by simp [endsB, hl])
end Go.Proofs.YthmhappejchilaaGreatDoor.Ab

set_option linter.unusedVariables false
set_option linter.unusedSimpArgs false
namespace Go.Proofs.YthmhappejchilaaGreatDoor.Ab
open Go Go.RowKit
set_option maxHeartbeats 4000000
set_option maxRecDepth 100000
def zFl : Fl := ⟨⟨#[]⟩, 0, 0, 0⟩
open Classical in
noncomputable def readF (ds : List UInt8) : Option Fl := if h : ∃ f, mayB f = true ∧ ds = padL (tellL f) then some h.choose else none
theorem sameB_v {f g : Fl} (h : sameB f g = true) : f.v = g.v := by
  simp only [sameB, Bool.and_eq_true, beq_iff_eq] at h
  obtain ⟨h1, h2, h3, h4⟩ := h
  have : f.nm = g.nm := ByteArray.ext (Array.toList_inj.1 h1)
  simp only [Fl.v, this, h2, h3, h4]
theorem readF_some {f : Fl} (hf : mayB f = true) : ∃ g, readF (padL (tellL f)) = some g ∧ g = f ∧ mayB g = true := by
  have h : ∃ g, mayB g = true ∧ padL (tellL f) = padL (tellL g) := ⟨f, hf, rfl⟩
  refine ⟨h.choose, by unfold readF; rw [dif_pos h], ?_, h.choose_spec.1⟩
  have h2 := h.choose_spec
  have h3 := tell_inj h2.1 hf
  rw [← h2.2] at h3
  have h4 := sameB_v (f := h.choose) (g := f) (by rw [← h3]; simp)
  generalize h.choose = g at *
  obtain ⟨a, b, c, d⟩ := g
  obtain ⟨a', b', c', d'⟩ := f
  simp only [Fl.v, Value.agg.injEq, Array.mk.injEq, List.cons.injEq, Value.string.injEq, Value.int.injEq, true_and, and_true] at h4
  obtain ⟨rfl, rfl, rfl, rfl⟩ := h4
  rfl
theorem readF_none {ds : List UInt8} (h : ∀ f, mayB f = true → ds ≠ padL (tellL f)) : readF ds = none := by
  unfold readF
  rw [dif_neg (fun ⟨f, h1, h2⟩ => h f h1 h2)]
theorem readF_may {ds : List UInt8} {f : Fl} (h : readF ds = some f) : mayB f = true := by
  unfold readF at h
  split at h
  · rename_i hx
    cases h
    exact hx.choose_spec.1
  · cases h
theorem c_ReadF {w0 : World} {X : Nat → Prop} {m : Mem} {v : Value} {ds : List UInt8} {Q : Value → Mem → Prop} (hp : Part L0 m) (ht : Ten w0) (hE : ErrV w0) (hr : RdV X m 1 v (ds.map byteV) ds.length)
    (hq : ∀ M, Old m M → Q (.tuple ⟨[((readF ds).getD zFl).v, .bool (readF ds).isSome]⟩) M) : AbC Tryz.prog w0 37 [v] m Q := by
  refine c_Read hp ht hE hr.sl (fun b hb => (hr.bl b hb).1) (fun M o h => ?_) fun M f o h1 h2 => ?_
  · have := hq M o
    rw [readF_none h] at this
    exact this
  · subst h2
    have := hq M o
    obtain ⟨g, h3, rfl, h4⟩ := readF_some h1
    rw [h3] at this
    exact this
structure Br where
  tr : Int
  wt : Int
  part : Rc
  stage : Int
  file : Fl
  data : List UInt8
  over : Bool
  err : Nat
def brC (s : Br) (ip : Nat) (vd : Value) : List Value := [.int .i64 s.tr, .int .i64 s.wt, .pointer (some ⟨ip, 0, none⟩), .int .i64 s.stage, .string s.file.nm, .int .i64 s.file.size, .int .i64 s.file.time, .int .i64 s.file.mode, vd, .bool s.over, errV s.err]
structure BrW (s : Br) : Prop where
  s1 : 0 ≤ s.stage
  s2 : s.stage ≤ 3
  f : 0 ≤ s.file.size
  s3 : s.over = false → s.stage ≤ 2
  f2 : s.file.size ≤ 8192
  dl : s.data.length ≤ 8192
structure BrR (H : HL) (ib : Nat) (s : Br) : Prop where
  ex : ∃ ip HP od dl, H = (some ib, .own (brC s ip (slV od s.data.length 1)) 86) :: byH od dl :: HP ∧ RcR HP ip s.part ∧ s.data = dl.take s.data.length ∧ (od = none → s.data.length = 0)
  w : BrW s
noncomputable def aftF (s : Br) : Br :=
  if s.part.over = false then s
  else if s.part.err ≠ 0 then { s with over := true, err := s.part.err }
  else if s.stage + 1 = 1 then
    (match readF s.part.data with
    | none => { s with stage := s.stage + 1, over := true, err := 14 }
    | some f => { s with stage := s.stage + 1, file := f, part := rOf s.tr s.wt 1 true true 1 })
  else if s.stage + 1 = 2 then
    (if (s.part.data.length : Int) < s.file.size then { s with stage := s.stage + 1, over := true, err := 13 }
    else { s with stage := s.stage + 1, data := s.part.data.take s.file.size.toNat, part := rOf s.tr s.wt 0 true false 1 })
  else if endsB s.part.data = false then { s with stage := s.stage + 1, over := true, err := 14 }
  else { s with stage := s.stage + 1, over := true }
theorem c_bFail {w0 : World} {V : Nat → Prop} {m0 m : Mem} {l : HL} {ib ip : Nat} {s : Br} {vd : Value} {e : Nat} {Q : Value → Mem → Prop} (h : Sep m0 V m l) (q : Nat) (hl : l[q]? = some (some ib, .own (brC s ip vd) 86))
    (hq : ∀ M, Sep m0 V M (l.set q (some ib, .own (brC { s with over := true, err := e } ip vd) 86)) → Q (.tuple ⟨[]⟩) M) :
    AbC Tryz.prog w0 76 [.pointer (some ⟨ib, 0, none⟩), errV e] m Q := by
  refine AbC_fn ok76 (by simp) ?_
  simp -implicitDefEqProofs (disch := first | assumption | omega | fail) [rc76, ro76, wkB, retV, stabOk, dC, ev, fillD, pickCells, putAt, bnd, slD, List.getElem?_cons_zero, List.getElem?_cons_succ, Mem.cell, Mem.row, cells_own, cells_ro]
  refine SK_stS h q hl (o := 9) (vs := [.bool true]) (cs' := brC { s with over := true } ip vd) (by simp [wkB, retV, stabOk, dC, ev, fillD, pickCells, putAt, bnd, slD, List.getElem?_cons_zero, List.getElem?_cons_succ, Mem.cell, Mem.row, cells_own, cells_ro]) (by simp [wkB, retV, stabOk, dC, ev, fillD, pickCells, putAt, bnd, slD, List.getElem?_cons_zero, List.getElem?_cons_succ, Mem.cell, Mem.row, cells_own, cells_ro]) (by simp [brC]) rfl rfl (by simp [brC, putAt]) fun m1 h1 n1 => ?_
  have hl1 : (l.set q (some ib, Ent.own (brC { s with over := true } ip vd) 86))[q]? = some (some ib, .own (brC { s with over := true } ip vd) 86) := by
    rw [List.getElem?_set_self]; exact (List.getElem?_eq_some_iff.1 hl).1
  simp -implicitDefEqProofs (disch := first | assumption | omega | fail) [wkB, retV, stabOk, dC, ev, fillD, pickCells, putAt, bnd, slD, List.getElem?_cons_zero, List.getElem?_cons_succ, Mem.cell, Mem.row, cells_own, cells_ro]
  refine SK_stS h1 q hl1 (o := 10) (vs := [errV e]) (cs' := brC { s with over := true, err := e } ip vd) (by simp [wkB, retV, stabOk, dC, ev, fillD, pickCells, putAt, bnd, slD, List.getElem?_cons_zero, List.getElem?_cons_succ, Mem.cell, Mem.row, cells_own, cells_ro]) (by simp [wkB, retV, stabOk, dC, ev, fillD, pickCells, putAt, bnd, slD, List.getElem?_cons_zero, List.getElem?_cons_succ, Mem.cell, Mem.row, cells_own, cells_ro, cellsV_errV]) (by simp [brC]) rfl (by simp [oneC_errV]) (by simp [brC, putAt]) fun m2 h2 n2 => ?_
  rw [List.set_set] at h2
  simp -implicitDefEqProofs (disch := first | assumption | omega | fail) [wkB, retV, stabOk, dC, ev, fillD, pickCells, putAt, bnd, slD, List.getElem?_cons_zero, List.getElem?_cons_succ, Mem.cell, Mem.row, cells_own, cells_ro]
  exact hq m2 h2
end Go.Proofs.YthmhappejchilaaGreatDoor.Ab

set_option linter.unusedVariables false
set_option linter.unusedSimpArgs false
namespace Go.Proofs.YthmhappejchilaaGreatDoor.Ab
open Go Go.RowKit
set_option maxHeartbeats 4000000
set_option maxRecDepth 100000
theorem slW_upto {ob : Option Nat} {n k : Nat} (hp : ob = none → n = 0) (hk : k ≤ n) : slW 1 (slV ob n 1) none (some (.int .i64 (k : Int))) = some (slV ob k 1) := by
  cases ob with
  | none =>
    have := hp rfl
    subst this
    have hk0 : k = 0 := by omega
    subst hk0
    simp [slW, dR, ev, bnd, slV]
  | some b => simp [slW, dR, ev, bnd, slV, slD, hk]
theorem c_bAfter {w0 : World} {V : Nat → Prop} {m : Mem} {H : HL} {ib : Nat} {s : Br} {v : Value} {Q : Value → Mem → Prop} (ht : Ten w0) (hE : ErrV w0) (h : Sep m V m H) (hR : BrR H ib s) (hno : s.over = false) (hbig : s.part.data.length ≤ 140737488355328)
    (hq : ∀ M H', Sep m V M H' → BrR H' ib (aftF s) → Q v M) : AbC Tryz.prog w0 51 [.pointer (some ⟨ib, 0, none⟩), v] m Q := by
  refine AbC_fn ok51 (by simp) ?_
  obtain ⟨⟨ip, HP, od, dl, rfl, hP, hdt, hod⟩, hw⟩ := hR
  have hP0 := hP
  obtain ⟨⟨ob, od2, rfl, hb2, hd2⟩, hwp⟩ := hP
  have g0 := h.get 0 rfl
  simp only [brC] at g0
  unfold aftF at hq
  simp -implicitDefEqProofs (disch := first | assumption | omega | fail) [rc51, ro51, wkB, retV, stabOk, dC, ev, fillD, pickCells, putAt, bnd, slD, List.getElem?_cons_zero, List.getElem?_cons_succ, Mem.cell, Mem.row, cells_own, cells_ro, g0]
  refine c_rDone (s := s.part) h 2 rfl ?_
  cases hov : s.part.over with
  | false =>
    rw [if_pos hov] at hq
    simp -implicitDefEqProofs (disch := first | assumption | omega | fail) [wkB, retV, stabOk, dC, ev, fillD, pickCells, putAt, bnd, slD, List.getElem?_cons_zero, List.getElem?_cons_succ, Mem.cell, Mem.row, cells_own, cells_ro]
    exact hq m _ h ⟨⟨ip, _, od, dl, rfl, hP0, hdt, hod⟩, hw⟩
  | true =>
    rw [if_neg (by rw [hov]; simp)] at hq
    cases he : s.part.err with
    | succ k =>
      rw [if_pos (by rw [he]; simp)] at hq
      rw [he] at hq
      simp -implicitDefEqProofs (disch := first | assumption | omega | fail) [wkB, retV, stabOk, dC, ev, fillD, pickCells, putAt, bnd, slD, List.getElem?_cons_zero, List.getElem?_cons_succ, Mem.cell, Mem.row, cells_own, cells_ro, errV]
      refine c_bFail (s := s) (e := k + 1) h 0 rfl fun m1 h1 => ?_
      simp -implicitDefEqProofs (disch := first | assumption | omega | fail) [wkB, retV, stabOk, dC, ev, fillD, pickCells, putAt, bnd, slD, List.getElem?_cons_zero, List.getElem?_cons_succ, Mem.cell, Mem.row, cells_own, cells_ro]
      exact hq m1 _ h1 ⟨⟨ip, _, od, dl, rfl, hP0, hdt, hod⟩, ⟨hw.1, hw.2, hw.3, (fun e => by cases e), hw.5, hw.6⟩⟩
    | zero =>
      rw [if_neg (by rw [he]; simp)] at hq
      have hs1 := hw.s1
      have hs2 := hw.s3 hno
      have w1 : IntKind.i64.wrap (s.stage + 1) = s.stage + 1 := w64 (by omega)
      have h' : Sep m V m (rcH ip ob od2 s.part ++ [(some ib, .own (brC s ip (slV od s.data.length 1)) 86), byH od dl]) := h.sel [2, 3, 4, 0, 1] (by decide)
      simp -implicitDefEqProofs (disch := first | assumption | omega | fail) [wkB, retV, stabOk, dC, ev, fillD, pickCells, putAt, bnd, slD, List.getElem?_cons_zero, List.getElem?_cons_succ, Mem.cell, Mem.row, cells_own, cells_ro, errV, rc51_3, g0]
      refine c_rData h'.fr hP0 hbig fun oo m1 h1 hoo => ?_
      have h2 := h'.un h1
      have g2 := h2.get 4 rfl
      simp only [brC] at g2
      simp -implicitDefEqProofs (disch := first | assumption | omega | fail) [wkB, retV, stabOk, dC, ev, fillD, pickCells, putAt, bnd, slD, List.getElem?_cons_zero, List.getElem?_cons_succ, Mem.cell, Mem.row, cells_own, cells_ro, g2, w1]
      refine SK_stS h2 4 rfl (o := 3) (vs := [.int .i64 (s.stage + 1)]) (cs' := brC { s with stage := s.stage + 1 } ip (slV od s.data.length 1)) (by simp [wkB, retV, stabOk, dC, ev, fillD, pickCells, putAt, bnd, slD, List.getElem?_cons_zero, List.getElem?_cons_succ, Mem.cell, Mem.row, cells_own, cells_ro]) (by simp [wkB, retV, stabOk, dC, ev, fillD, pickCells, putAt, bnd, slD, List.getElem?_cons_zero, List.getElem?_cons_succ, Mem.cell, Mem.row, cells_own, cells_ro]) (by simp [brC]) rfl rfl (by simp [brC, putAt]) fun m3 h3 _ => ?_
      have g3 := h3.get 4 rfl
      simp only [brC] at g3
      have hO3 := h3.slO 0 (k := s.part.data.length) (sz := 1) rfl (by simp) hoo
      have hr3 : RdV (fun i => i < m3.next) m3 1 (slV oo s.part.data.length 1) (s.part.data.map byteV) s.part.data.length := h3.rd 0 rfl (by simp) hoo (fun i hi => by subst hi; exact h3.lt 0 rfl)
      by_cases hst1 : s.stage + 1 = 1
      · rw [if_pos hst1] at hq
        have hst : s.stage = 0 := by omega
        simp -implicitDefEqProofs (disch := first | assumption | omega | fail) [wkB, retV, stabOk, dC, ev, fillD, pickCells, putAt, bnd, slD, List.getElem?_cons_zero, List.getElem?_cons_succ, Mem.cell, Mem.row, cells_own, cells_ro, g3, hst]
        refine c_ReadF h3.pt ht hE hr3 fun m4 o4 => ?_
        have h4 := h3.old o4
        cases hrf : readF s.part.data with
        | none =>
          rw [hrf] at hq
          simp -implicitDefEqProofs (disch := first | assumption | omega | fail) [wkB, retV, stabOk, dC, ev, fillD, pickCells, putAt, bnd, slD, List.getElem?_cons_zero, List.getElem?_cons_succ, Mem.cell, Mem.row, cells_own, cells_ro, Fl.v, zFl]
          refine SK_alS h4 fun bx m5 h5 _ _ => ?_
          simp -implicitDefEqProofs (disch := first | assumption | omega | fail) [wkB, retV, stabOk, dC, ev, fillD, pickCells, putAt, bnd, slD, List.getElem?_cons_zero, List.getElem?_cons_succ, Mem.cell, Mem.row, cells_own, cells_ro]
          refine SK_stS h5 0 rfl (o := 0) (vs := [.string ⟨#[]⟩, .int .i64 0, .int .i64 0, .int .i64 0]) (cs' := [.string ⟨#[]⟩, .int .i64 0, .int .i64 0, .int .i64 0]) (by simp [wkB, retV, stabOk, dC, ev, fillD, pickCells, putAt, bnd, slD, List.getElem?_cons_zero, List.getElem?_cons_succ, Mem.cell, Mem.row, cells_own, cells_ro]) (by simp [wkB, retV, stabOk, dC, ev, fillD, pickCells, putAt, bnd, slD, List.getElem?_cons_zero, List.getElem?_cons_succ, Mem.cell, Mem.row, cells_own, cells_ro]) (by simp) rfl rfl rfl fun m6 h6 _ => ?_
          simp -implicitDefEqProofs (disch := first | assumption | omega | fail) [wkB, retV, stabOk, dC, ev, fillD, pickCells, putAt, bnd, slD, List.getElem?_cons_zero, List.getElem?_cons_succ, Mem.cell, Mem.row, cells_own, cells_ro]
          refine c_bFail (s := { s with stage := s.stage + 1 }) (e := 14) h6 5 rfl fun m7 h7 => ?_
          simp -implicitDefEqProofs (disch := first | assumption | omega | fail) [wkB, retV, stabOk, dC, ev, fillD, pickCells, putAt, bnd, slD, List.getElem?_cons_zero, List.getElem?_cons_succ, Mem.cell, Mem.row, cells_own, cells_ro]
          exact hq m7 _ (h7.sel [5, 6, 2, 3, 4] (by decide)) ⟨⟨ip, _, od, dl, rfl, hP0, hdt, hod⟩, ⟨by show 0 ≤ s.stage + 1; omega, by show s.stage + 1 ≤ 3; omega, hw.3, (fun e => by first | cases e | (show s.stage + 1 ≤ 2; omega)), hw.5, hw.6⟩⟩
        | some f =>
          rw [hrf] at hq
          have hfm := readF_may hrf
          simp -implicitDefEqProofs (disch := first | assumption | omega | fail) [wkB, retV, stabOk, dC, ev, fillD, pickCells, putAt, bnd, slD, List.getElem?_cons_zero, List.getElem?_cons_succ, Mem.cell, Mem.row, cells_own, cells_ro, Fl.v]
          refine SK_alS h4 fun bx m5 h5 _ _ => ?_
          simp -implicitDefEqProofs (disch := first | assumption | omega | fail) [wkB, retV, stabOk, dC, ev, fillD, pickCells, putAt, bnd, slD, List.getElem?_cons_zero, List.getElem?_cons_succ, Mem.cell, Mem.row, cells_own, cells_ro]
          refine SK_stS h5 0 rfl (o := 0) (vs := [.string f.nm, .int .i64 f.size, .int .i64 f.time, .int .i64 f.mode]) (cs' := [.string f.nm, .int .i64 f.size, .int .i64 f.time, .int .i64 f.mode]) (by simp [wkB, retV, stabOk, dC, ev, fillD, pickCells, putAt, bnd, slD, List.getElem?_cons_zero, List.getElem?_cons_succ, Mem.cell, Mem.row, cells_own, cells_ro]) (by simp [wkB, retV, stabOk, dC, ev, fillD, pickCells, putAt, bnd, slD, List.getElem?_cons_zero, List.getElem?_cons_succ, Mem.cell, Mem.row, cells_own, cells_ro]) (by simp) rfl rfl rfl fun m6 h6 _ => ?_
          have g6 := h6.get 0 rfl
          simp -implicitDefEqProofs (disch := first | assumption | omega | fail) [wkB, retV, stabOk, dC, ev, fillD, pickCells, putAt, bnd, slD, List.getElem?_cons_zero, List.getElem?_cons_succ, Mem.cell, Mem.row, cells_own, cells_ro, rc51_0, g6]
          refine SK_stS h6 5 rfl (o := 4) (vs := [.string f.nm, .int .i64 f.size, .int .i64 f.time, .int .i64 f.mode]) (cs' := brC { s with stage := s.stage + 1, file := f } ip (slV od s.data.length 1)) (by simp [wkB, retV, stabOk, dC, ev, fillD, pickCells, putAt, bnd, slD, List.getElem?_cons_zero, List.getElem?_cons_succ, Mem.cell, Mem.row, cells_own, cells_ro]) (by simp [wkB, retV, stabOk, dC, ev, fillD, pickCells, putAt, bnd, slD, List.getElem?_cons_zero, List.getElem?_cons_succ, Mem.cell, Mem.row, cells_own, cells_ro, g6]) (by simp [brC]) rfl rfl (by simp [brC, putAt]) fun m7 h7 _ => ?_
          have g7 := h7.get 5 rfl
          simp only [brC] at g7
          simp -implicitDefEqProofs (disch := first | assumption | omega | fail) [wkB, retV, stabOk, dC, ev, fillD, pickCells, putAt, bnd, slD, List.getElem?_cons_zero, List.getElem?_cons_succ, Mem.cell, Mem.row, cells_own, cells_ro, g7]
          refine c_rOf (n := 1) h7 fun ir2 H2 m8 h8 hR8 => ?_
          have h8 := h8.perm List.perm_append_comm
          simp -implicitDefEqProofs (disch := first | assumption | omega | fail) [wkB, retV, stabOk, dC, ev, fillD, pickCells, putAt, bnd, slD, List.getElem?_cons_zero, List.getElem?_cons_succ, Mem.cell, Mem.row, cells_own, cells_ro]
          refine SK_stS h8 5 rfl (o := 2) (vs := [.pointer (some ⟨ir2, 0, none⟩)]) (cs' := brC { s with stage := s.stage + 1, file := f } ir2 (slV od s.data.length 1)) (by simp [wkB, retV, stabOk, dC, ev, fillD, pickCells, putAt, bnd, slD, List.getElem?_cons_zero, List.getElem?_cons_succ, Mem.cell, Mem.row, cells_own, cells_ro]) (by simp [wkB, retV, stabOk, dC, ev, fillD, pickCells, putAt, bnd, slD, List.getElem?_cons_zero, List.getElem?_cons_succ, Mem.cell, Mem.row, cells_own, cells_ro]) (by simp [brC]) rfl rfl (by simp [brC, putAt]) fun m9 h9 _ => ?_
          simp -implicitDefEqProofs (disch := first | assumption | omega | fail) [wkB, retV, stabOk, dC, ev, fillD, pickCells, putAt, bnd, slD, List.getElem?_cons_zero, List.getElem?_cons_succ, Mem.cell, Mem.row, cells_own, cells_ro, rc51_2]
          have hf : 0 ≤ f.size ∧ f.size ≤ 8192 := by
            simp only [mayB, Bool.and_eq_true, decide_eq_true_eq] at hfm
            exact ⟨hfm.2.1, hfm.2.2.1⟩
          exact hq m9 _ (h9.sub (List.drop_sublist 5 _)) ⟨⟨ir2, H2, od, dl, rfl, hR8, hdt, hod⟩, ⟨by show 0 ≤ s.stage + 1; omega, by show s.stage + 1 ≤ 3; omega, hf.1, (fun e => by show s.stage + 1 ≤ 2; omega), hf.2, hw.6⟩⟩
      · rw [if_neg hst1] at hq
        have hst1' : (s.stage + 1 == 1) = false := beq_eq_false_iff_ne.2 hst1
        by_cases hst2 : s.stage + 1 = 2
        · rw [if_pos hst2] at hq
          have hst2' : (s.stage + 1 == 2) = true := beq_iff_eq.2 hst2
          have hsl3 := hO3.slen
          by_cases hlt : (s.part.data.length : Int) < s.file.size
          · rw [if_pos hlt] at hq
            simp -implicitDefEqProofs (disch := first | assumption | omega | fail) [wkB, retV, stabOk, dC, ev, fillD, pickCells, putAt, bnd, slD, List.getElem?_cons_zero, List.getElem?_cons_succ, Mem.cell, Mem.row, cells_own, cells_ro, g3, hst1', hst2', hsl3, hlt]
            refine c_bFail (s := { s with stage := s.stage + 1 }) (e := 13) h3 4 rfl fun m7 h7 => ?_
            simp -implicitDefEqProofs (disch := first | assumption | omega | fail) [wkB, retV, stabOk, dC, ev, fillD, pickCells, putAt, bnd, slD, List.getElem?_cons_zero, List.getElem?_cons_succ, Mem.cell, Mem.row, cells_own, cells_ro]
            exact hq m7 _ (h7.sel [4, 5, 1, 2, 3] (by decide)) ⟨⟨ip, _, od, dl, rfl, hP0, hdt, hod⟩, ⟨by show 0 ≤ s.stage + 1; omega, by show s.stage + 1 ≤ 3; omega, hw.3, (fun e => by first | cases e | (show s.stage + 1 ≤ 2; omega)), hw.5, hw.6⟩⟩
          · rw [if_neg hlt] at hq
            obtain ⟨z, hz⟩ : ∃ z : Nat, s.file.size = (z : Int) := ⟨s.file.size.toNat, by have := hw.f; omega⟩
            rw [hz] at g3 hlt
            have hzn : s.file.size.toNat = z := by omega
            rw [hzn] at hq
            have hsl := slW_upto (k := z) hoo (by omega)
            simp -implicitDefEqProofs (disch := first | assumption | omega | fail) [wkB, retV, stabOk, dC, ev, fillD, pickCells, putAt, bnd, slD, List.getElem?_cons_zero, List.getElem?_cons_succ, Mem.cell, Mem.row, cells_own, cells_ro, g3, hst1', hst2', hsl3, hlt, rc51_1, hsl]
            refine SK_stS h3 4 rfl (o := 8) (vs := [slV oo z 1]) (cs' := brC { s with stage := s.stage + 1, data := s.part.data.take z } ip (slV oo z 1)) (by simp [wkB, retV, stabOk, dC, ev, fillD, pickCells, putAt, bnd, slD, List.getElem?_cons_zero, List.getElem?_cons_succ, Mem.cell, Mem.row, cells_own, cells_ro]) (by simp [wkB, retV, stabOk, dC, ev, fillD, pickCells, putAt, bnd, slD, List.getElem?_cons_zero, List.getElem?_cons_succ, Mem.cell, Mem.row, cells_own, cells_ro]) (by simp [brC]) rfl (by simp [oneC_slV]) (by simp [brC, putAt]) fun m5 h5 _ => ?_
            have g5 := h5.get 4 rfl
            simp only [brC] at g5
            simp -implicitDefEqProofs (disch := first | assumption | omega | fail) [wkB, retV, stabOk, dC, ev, fillD, pickCells, putAt, bnd, slD, List.getElem?_cons_zero, List.getElem?_cons_succ, Mem.cell, Mem.row, cells_own, cells_ro, g5]
            refine c_rOf (n := 0) h5 fun ir2 H2 m8 h8 hR8 => ?_
            have h8 := h8.perm List.perm_append_comm
            simp -implicitDefEqProofs (disch := first | assumption | omega | fail) [wkB, retV, stabOk, dC, ev, fillD, pickCells, putAt, bnd, slD, List.getElem?_cons_zero, List.getElem?_cons_succ, Mem.cell, Mem.row, cells_own, cells_ro]
            refine SK_stS h8 4 rfl (o := 2) (vs := [.pointer (some ⟨ir2, 0, none⟩)]) (cs' := brC { s with stage := s.stage + 1, data := s.part.data.take z } ir2 (slV oo z 1)) (by simp [wkB, retV, stabOk, dC, ev, fillD, pickCells, putAt, bnd, slD, List.getElem?_cons_zero, List.getElem?_cons_succ, Mem.cell, Mem.row, cells_own, cells_ro]) (by simp [wkB, retV, stabOk, dC, ev, fillD, pickCells, putAt, bnd, slD, List.getElem?_cons_zero, List.getElem?_cons_succ, Mem.cell, Mem.row, cells_own, cells_ro]) (by simp [brC]) rfl rfl (by simp [brC, putAt]) fun m9 h9 _ => ?_
            simp -implicitDefEqProofs (disch := first | assumption | omega | fail) [wkB, retV, stabOk, dC, ev, fillD, pickCells, putAt, bnd, slD, List.getElem?_cons_zero, List.getElem?_cons_succ, Mem.cell, Mem.row, cells_own, cells_ro, rc51_2]
            have hlz : (s.part.data.take z).length = z := by simp; omega
            have h10 : Sep m V m9 ((some ib, .own (brC { s with stage := s.stage + 1, data := s.part.data.take z } ir2 (slV oo (s.part.data.take z).length 1)) 86) :: byH oo s.part.data :: H2) := by
              rw [hlz]
              exact (h9.sub ((((((List.Sublist.refl H2).cons _).cons_cons _).cons _).cons _).cons _ |>.cons_cons _)).perm (List.Perm.swap _ _ _)
            exact hq m9 _ h10 ⟨⟨ir2, H2, oo, s.part.data, rfl, hR8, by show s.part.data.take z = _; rw [hlz], fun e => by show (s.part.data.take z).length = 0; have := hoo e; omega⟩, ⟨by show 0 ≤ s.stage + 1; omega, by show s.stage + 1 ≤ 3; omega, hw.3, (fun e => by first | cases e | (show s.stage + 1 ≤ 2; omega)), hw.5, by show (s.part.data.take z).length ≤ 8192; have := hw.f2; omega⟩⟩
        · rw [if_neg hst2] at hq
          have hst2' : (s.stage + 1 == 2) = false := beq_eq_false_iff_ne.2 hst2
          simp -implicitDefEqProofs (disch := first | assumption | omega | fail) [wkB, retV, stabOk, dC, ev, fillD, pickCells, putAt, bnd, slD, List.getElem?_cons_zero, List.getElem?_cons_succ, Mem.cell, Mem.row, cells_own, cells_ro, g3, hst1', hst2']
          refine c_Ends hr3.sl ?_
          cases hen : endsB s.part.data with
          | false =>
            rw [if_pos hen] at hq
            simp -implicitDefEqProofs (disch := first | assumption | omega | fail) [wkB, retV, stabOk, dC, ev, fillD, pickCells, putAt, bnd, slD, List.getElem?_cons_zero, List.getElem?_cons_succ, Mem.cell, Mem.row, cells_own, cells_ro]
            refine c_bFail (s := { s with stage := s.stage + 1 }) (e := 14) h3 4 rfl fun m7 h7 => ?_
            simp -implicitDefEqProofs (disch := first | assumption | omega | fail) [wkB, retV, stabOk, dC, ev, fillD, pickCells, putAt, bnd, slD, List.getElem?_cons_zero, List.getElem?_cons_succ, Mem.cell, Mem.row, cells_own, cells_ro]
            exact hq m7 _ (h7.sel [4, 5, 1, 2, 3] (by decide)) ⟨⟨ip, _, od, dl, rfl, hP0, hdt, hod⟩, ⟨by show 0 ≤ s.stage + 1; omega, by show s.stage + 1 ≤ 3; omega, hw.3, (fun e => by first | cases e | (show s.stage + 1 ≤ 2; omega)), hw.5, hw.6⟩⟩
          | true =>
            rw [if_neg (by rw [hen]; simp)] at hq
            simp -implicitDefEqProofs (disch := first | assumption | omega | fail) [wkB, retV, stabOk, dC, ev, fillD, pickCells, putAt, bnd, slD, List.getElem?_cons_zero, List.getElem?_cons_succ, Mem.cell, Mem.row, cells_own, cells_ro]
            refine SK_stS h3 4 rfl (o := 9) (vs := [.bool true]) (cs' := brC { s with stage := s.stage + 1, over := true } ip (slV od s.data.length 1)) (by simp [wkB, retV, stabOk, dC, ev, fillD, pickCells, putAt, bnd, slD, List.getElem?_cons_zero, List.getElem?_cons_succ, Mem.cell, Mem.row, cells_own, cells_ro]) (by simp [wkB, retV, stabOk, dC, ev, fillD, pickCells, putAt, bnd, slD, List.getElem?_cons_zero, List.getElem?_cons_succ, Mem.cell, Mem.row, cells_own, cells_ro]) (by simp [brC]) rfl rfl (by simp [brC, putAt]) fun m7 h7 _ => ?_
            simp -implicitDefEqProofs (disch := first | assumption | omega | fail) [wkB, retV, stabOk, dC, ev, fillD, pickCells, putAt, bnd, slD, List.getElem?_cons_zero, List.getElem?_cons_succ, Mem.cell, Mem.row, cells_own, cells_ro, rc51_2]
            exact hq m7 _ (h7.sel [4, 5, 1, 2, 3] (by decide)) ⟨⟨ip, _, od, dl, rfl, hP0, hdt, hod⟩, ⟨by show 0 ≤ s.stage + 1; omega, by show s.stage + 1 ≤ 3; omega, hw.3, (fun e => by first | cases e | (show s.stage + 1 ≤ 2; omega)), hw.5, hw.6⟩⟩
end Go.Proofs.YthmhappejchilaaGreatDoor.Ab

set_option linter.unusedVariables false
set_option linter.unusedSimpArgs false
namespace Go.Proofs.YthmhappejchilaaGreatDoor.Ab
open Go Go.RowKit
set_option maxHeartbeats 4000000
set_option maxRecDepth 100000
theorem Sep.rot2 {m0 m : Mem} {V : Nat → Prop} {L : HL} {a b : Option Nat × Ent} (h : Sep m0 V m (a :: b :: L)) : Sep m0 V m (L ++ [a, b]) := h.perm (List.perm_append_comm (l₁ := [a, b]) (l₂ := L))
theorem takeF_data (s : Rc) (n : UInt8) (d : List UInt8) : (takeF s n d).1.data.length ≤ s.data.length + d.length := by
  unfold takeF
  split
  · rw [finF_data]; simp
  · split
    · simp
    · rw [finF_data]; simp
theorem scaF_data (s : Rc) : (scaF s).1.data.length ≤ s.data.length + 1024 ∧ (scaF s).1.buffer.length ≤ s.buffer.length := by
  unfold scaF
  split
  · exact ⟨by simp, Nat.le_refl _⟩
  · split
    · exact ⟨by simp, by simp⟩
    · refine ⟨?_, ?_⟩
      · refine Nat.le_trans (takeF_data _ _ _) ?_
        have := (scanF_len s.buffer s.crc).1
        show s.data.length + _ ≤ _
        omega
      · rw [takeF_buf]; simp
theorem rPut1_data (s : Rc) : (rPut1 s).1.data.length ≤ s.data.length + 1024 ∧ (rPut1 s).1.buffer.length ≤ s.buffer.length := by
  unfold rPut1
  split
  · exact ⟨by simp, Nat.le_refl _⟩
  · split
    · exact ⟨by simp, Nat.le_refl _⟩
    · split
      · exact ⟨by simp, Nat.le_refl _⟩
      · exact scaF_data s
theorem rPutF_data (s : Rc) (b : List UInt8) : (rPutF s b).1.data.length ≤ s.data.length + 1024 ∧ (rPutF s b).1.buffer.length ≤ s.buffer.length + b.length := by
  unfold rPutF
  split
  · exact ⟨by simp, by simp⟩
  · have := rPut1_data { s with left := s.wait, buffer := s.buffer ++ b }
    simpa using this
theorem rTickF_data (s : Rc) : (rTickF s).1.data = s.data ∧ (rTickF s).1.buffer.length ≤ s.buffer.length := by
  unfold rTickF
  split
  · simp
  · split
    · simp
    · split
      · simp
      · split <;> simp
noncomputable def bPutF (s : Br) (b : List UInt8) : Br × List UInt8 := if s.over = true then (s, []) else (aftF { s with part := (rPutF s.part b).1 }, (rPutF s.part b).2)
noncomputable def bTickF (s : Br) : Br × List UInt8 := if s.over = true then (s, []) else (aftF { s with part := (rTickF s.part).1 }, (rTickF s.part).2)
def BrQ (V : Nat → Prop) (m : Mem) (ib : Nat) (r : Br × List UInt8) (Q : Value → Mem → Prop) : Prop :=
  ∀ oo H' M, Sep m V M (byH oo r.2 :: H') → BrR H' ib r.1 → (oo = none → r.2.length = 0) → Q (slV oo r.2.length 1) M
theorem c_bGo {w0 : World} {V : Nat → Prop} {m M : Mem} {ib ip : Nat} {od oo : Option Nat} {dl o : List UInt8} {HP : HL} {s : Br} {p : Rc} {Q : Value → Mem → Prop} (ht : Ten w0) (hE : ErrV w0)
    (h : Sep m V M ((byH oo o :: HP) ++ [(some ib, .own (brC s ip (slV od s.data.length 1)) 86), byH od dl])) (hP : RcR HP ip p) (hoo : oo = none → o.length = 0) (hdt : s.data = dl.take s.data.length) (hod : od = none → s.data.length = 0) (hw : BrW s) (hno : s.over = false) (hbig : p.data.length ≤ 140737488355328)
    (hq : BrQ V m ib (aftF { s with part := p }, o) Q) : AbC Tryz.prog w0 51 [.pointer (some ⟨ib, 0, none⟩), slV oo o.length 1] M Q := by
  have h1 : Sep m V M (((some ib, .own (brC s ip (slV od s.data.length 1)) 86) :: byH od dl :: HP) ++ [byH oo o]) := h.perm (by
    have e : ((byH oo o :: HP) ++ [(some ib, .own (brC s ip (slV od s.data.length 1)) 86), byH od dl]).Perm ([(some ib, .own (brC s ip (slV od s.data.length 1)) 86), byH od dl] ++ (byH oo o :: HP)) := List.perm_append_comm
    refine e.trans (((List.Perm.cons _ (List.Perm.cons _ ?_))))
    exact (List.perm_append_comm (l₁ := [byH oo o]) (l₂ := HP)))
  refine c_bAfter ht hE (s := { s with part := p }) h1.fr ⟨⟨ip, HP, od, dl, rfl, hP, hdt, hod⟩, ⟨hw.1, hw.2, hw.3, hw.4, hw.5, hw.6⟩⟩ hno hbig fun M2 H2 h2 hR2 => ?_
  exact hq oo H2 M2 ((h1.un h2).perm List.perm_append_comm) hR2 hoo
theorem c_bPut {w0 : World} {V : Nat → Prop} {m : Mem} {H : HL} {ib : Nat} {s : Br} {v : Value} {b : List UInt8} {Q : Value → Mem → Prop} (ht : Ten w0) (hE : ErrV w0) (h : Sep m V m H) (hR : BrR H ib s) (hr : RdV V m 1 v (b.map byteV) b.length)
    (hbig : s.part.data.length + 1024 ≤ 140737488355328) (hbb : s.part.buffer.length + b.length ≤ 140737488355328) (hq : BrQ V m ib (bPutF s b) Q) :
    AbC Tryz.prog w0 33 [.pointer (some ⟨ib, 0, none⟩), v] m Q := by
  refine AbC_fn ok33 (by simp) ?_
  have hR0 := hR
  obtain ⟨⟨ip, HP, od, dl, rfl, hP, hdt, hod⟩, hw⟩ := hR
  have g0 := h.get 0 rfl
  simp only [brC] at g0
  unfold bPutF at hq
  cases hov : s.over with
  | true =>
    rw [if_pos hov] at hq
    rw [hov] at g0
    simp -implicitDefEqProofs (disch := first | assumption | omega | fail) [rc33, ro33, wkB, retV, stabOk, dC, ev, fillD, pickCells, putAt, bnd, slD, List.getElem?_cons_zero, List.getElem?_cons_succ, Mem.cell, Mem.row, cells_own, cells_ro, g0]
    exact hq none _ m (h.non _) hR0 fun _ => rfl
  | false =>
    rw [if_neg (by rw [hov]; simp)] at hq
    rw [hov] at g0
    simp -implicitDefEqProofs (disch := first | assumption | omega | fail) [rc33, ro33, wkB, retV, stabOk, dC, ev, fillD, pickCells, putAt, bnd, slD, List.getElem?_cons_zero, List.getElem?_cons_succ, Mem.cell, Mem.row, cells_own, cells_ro, g0, rc33_0]
    have h' : Sep m V m (HP ++ [(some ib, .own (brC s ip (slV od s.data.length 1)) 86), byH od dl]) := h.rot2
    refine c_rPut h'.fr hP (hr.mono fun i _ hi => .inl hi) hbig hbb fun oo HP2 M hM hP2 hoo => ?_
    simp -implicitDefEqProofs (disch := first | assumption | omega | fail) [wkB, retV, stabOk, dC, ev, fillD, pickCells, putAt, bnd, slD, List.getElem?_cons_zero, List.getElem?_cons_succ, Mem.cell, Mem.row, cells_own, cells_ro]
    have hd := (rPutF_data s.part b).1
    refine c_bGo ht hE (h'.un hM) hP2 hoo hdt hod hw hov (by omega) fun oo2 H2 M2 h2 hR2 hoo2 => ?_
    simp -implicitDefEqProofs (disch := first | assumption | omega | fail) [wkB, retV, stabOk, dC, ev, fillD, pickCells, putAt, bnd, slD, List.getElem?_cons_zero, List.getElem?_cons_succ, Mem.cell, Mem.row, cells_own, cells_ro]
    exact hq oo2 H2 M2 h2 hR2 hoo2
theorem c_bTick {w0 : World} {V : Nat → Prop} {m : Mem} {H : HL} {ib : Nat} {s : Br} {Q : Value → Mem → Prop} (ht : Ten w0) (hE : ErrV w0) (h : Sep m V m H) (hR : BrR H ib s)
    (hbig : s.part.data.length ≤ 140737488355328) (hq : BrQ V m ib (bTickF s) Q) :
    AbC Tryz.prog w0 29 [.pointer (some ⟨ib, 0, none⟩)] m Q := by
  refine AbC_fn ok29 (by simp) ?_
  have hR0 := hR
  obtain ⟨⟨ip, HP, od, dl, rfl, hP, hdt, hod⟩, hw⟩ := hR
  have g0 := h.get 0 rfl
  simp only [brC] at g0
  unfold bTickF at hq
  cases hov : s.over with
  | true =>
    rw [if_pos hov] at hq
    rw [hov] at g0
    simp -implicitDefEqProofs (disch := first | assumption | omega | fail) [rc29, ro29, wkB, retV, stabOk, dC, ev, fillD, pickCells, putAt, bnd, slD, List.getElem?_cons_zero, List.getElem?_cons_succ, Mem.cell, Mem.row, cells_own, cells_ro, g0]
    exact hq none _ m (h.non _) hR0 fun _ => rfl
  | false =>
    rw [if_neg (by rw [hov]; simp)] at hq
    rw [hov] at g0
    simp -implicitDefEqProofs (disch := first | assumption | omega | fail) [rc29, ro29, wkB, retV, stabOk, dC, ev, fillD, pickCells, putAt, bnd, slD, List.getElem?_cons_zero, List.getElem?_cons_succ, Mem.cell, Mem.row, cells_own, cells_ro, g0, rc29_0]
    have h' : Sep m V m (HP ++ [(some ib, .own (brC s ip (slV od s.data.length 1)) 86), byH od dl]) := h.rot2
    refine c_rTick h'.fr hP fun oo HP2 M hM hP2 hoo => ?_
    simp -implicitDefEqProofs (disch := first | assumption | omega | fail) [wkB, retV, stabOk, dC, ev, fillD, pickCells, putAt, bnd, slD, List.getElem?_cons_zero, List.getElem?_cons_succ, Mem.cell, Mem.row, cells_own, cells_ro]
    have hd := (rTickF_data s.part).1
    refine c_bGo ht hE (h'.un hM) hP2 hoo hdt hod hw hov (by rw [hd]; omega) fun oo2 H2 M2 h2 hR2 hoo2 => ?_
    simp -implicitDefEqProofs (disch := first | assumption | omega | fail) [wkB, retV, stabOk, dC, ev, fillD, pickCells, putAt, bnd, slD, List.getElem?_cons_zero, List.getElem?_cons_succ, Mem.cell, Mem.row, cells_own, cells_ro]
    exact hq oo2 H2 M2 h2 hR2 hoo2
theorem c_bDone {w0 : World} {V : Nat → Prop} {m0 m : Mem} {l H : HL} {ib : Nat} {s : Br} {Q : Value → Mem → Prop} (h : Sep m0 V m l) (hR : BrR H ib s) (hs : ∀ p ∈ H, p ∈ l)
    (hq : Q (.tuple ⟨[.bool s.over, errV s.err]⟩) m) : AbC Tryz.prog w0 16 [.pointer (some ⟨ib, 0, none⟩)] m Q := by
  refine AbC_fn ok16 (by simp) ?_
  obtain ⟨⟨ip, HP, od, dl, rfl, hP, hdt, hod⟩, hw⟩ := hR
  have g0 := h.mem (hs _ (List.mem_cons_self ..))
  simp only [brC] at g0
  simp -implicitDefEqProofs (disch := first | assumption | omega | fail) [rc16, ro16, wkB, retV, stabOk, dC, ev, fillD, pickCells, putAt, bnd, slD, List.getElem?_cons_zero, List.getElem?_cons_succ, Mem.cell, Mem.row, cells_own, cells_ro, g0]
  exact hq
theorem c_bData {w0 : World} {V : Nat → Prop} {m : Mem} {H : HL} {ib : Nat} {s : Br} {Q : Value → Mem → Prop} (h : Sep m V m H) (hR : BrR H ib s)
    (hq : ∀ oo M, Sep m V M (byH oo s.data :: H) → (oo = none → s.data.length = 0) → Q (slV oo s.data.length 1) M) : AbC Tryz.prog w0 18 [.pointer (some ⟨ib, 0, none⟩)] m Q := by
  refine AbC_fn ok18 (by simp) ?_
  obtain ⟨⟨ip, HP, od, dl, rfl, hP, hdt, hod⟩, hw⟩ := hR
  have g0 := h.get 0 rfl
  simp only [brC] at g0
  have hle : s.data.length ≤ dl.length := by
    have := congrArg List.length hdt
    rw [List.length_take] at this
    omega
  have hr : SlR m 1 (slV od s.data.length 1) (s.data.map byteV) s.data.length := by
    refine ⟨by simp, ?_⟩
    cases od with
    | none => exact .inl ⟨hod rfl, .inl (by rw [hod rfl]; rfl)⟩
    | some k =>
      have gk := h.get 1 rfl
      exact .inr ⟨k, 0, dl.map byteV, rfl, by rw [gk]; rfl, by simp; exact hle, by rw [Nat.mul_one, List.drop_zero, ← List.map_take, ← hdt]⟩
  have hbig := hw.dl
  simp -implicitDefEqProofs (disch := first | assumption | omega | fail) [rc18, ro18, wkB, retV, stabOk, dC, ev, fillD, pickCells, putAt, bnd, slD, List.getElem?_cons_zero, List.getElem?_cons_succ, Mem.cell, Mem.row, cells_own, cells_ro, g0]
  refine SK_nwS h (k := s.data.length) (ys := s.data.map byteV) (by simp [wkB, retV, stabOk, dC, ev, fillD, pickCells, putAt, bnd, slD, List.getElem?_cons_zero, List.getElem?_cons_succ, Mem.cell, Mem.row, cells_own, cells_ro]) (by simp [wkB, retV, stabOk, dC, ev, fillD, pickCells, putAt, bnd, slD, List.getElem?_cons_zero, List.getElem?_cons_succ, Mem.cell, Mem.row, cells_own, cells_ro]; exact hr.elems) (by simp [wkB, retV, stabOk, dC, ev, fillD, pickCells, putAt, bnd, slD, List.getElem?_cons_zero, List.getElem?_cons_succ, Mem.cell, Mem.row, cells_own, cells_ro]; exact hr.lenV) (byteV_oneC _) (by omega) (by unfold maxLen; omega) (by simp) fun oo m1 h1 hn1 _ => ?_
  simp -implicitDefEqProofs (disch := first | assumption | omega | fail) [wkB, retV, stabOk, dC, ev, fillD, pickCells, putAt, bnd, slD, List.getElem?_cons_zero, List.getElem?_cons_succ, Mem.cell, Mem.row, cells_own, cells_ro]
  exact hq oo m1 h1 hn1
def bTake (tr wt : Int) : Br := ⟨tr, wt, rOf tr wt 0 true false 1, 0, zFl, [], false, 0⟩
theorem c_bTake {w0 : World} {V : Nat → Prop} {m0 m : Mem} {l : HL} {tr wt : Int} {Q : Value → Mem → Prop} (h : Sep m0 V m l)
    (hq : ∀ ib H M, Sep m0 V M (H ++ l) → BrR H ib (bTake tr wt) → Q (.pointer (some ⟨ib, 0, none⟩)) M) :
    AbC Tryz.prog w0 13 [.agg ⟨[.int .i64 tr, .int .i64 wt]⟩] m Q := by
  refine AbC_fn ok13 (by simp) ?_
  simp -implicitDefEqProofs (disch := first | assumption | omega | fail) [rc13, ro13, wkB, retV, stabOk, dC, ev, fillD, pickCells, putAt, bnd, slD, List.getElem?_cons_zero, List.getElem?_cons_succ, Mem.cell, Mem.row, cells_own, cells_ro]
  refine SK_bxS h (cs := [.int .i64 tr, .int .i64 wt]) (by simp [wkB, retV, stabOk, dC, ev, fillD, pickCells, putAt, bnd, slD, List.getElem?_cons_zero, List.getElem?_cons_succ, Mem.cell, Mem.row, cells_own, cells_ro]) fun B m1 h1 _ _ => ?_
  have g1 := h1.get 0 rfl
  simp -implicitDefEqProofs (disch := first | assumption | omega | fail) [wkB, retV, stabOk, dC, ev, fillD, pickCells, putAt, bnd, slD, List.getElem?_cons_zero, List.getElem?_cons_succ, Mem.cell, Mem.row, cells_own, cells_ro, g1]
  refine c_rOf (n := 0) h1 fun ir2 H2 m8 h8 hR8 => ?_
  have h8 := h8.perm List.perm_append_comm
  have g8 := h8.get 0 rfl
  simp -implicitDefEqProofs (disch := first | assumption | omega | fail) [wkB, retV, stabOk, dC, ev, fillD, pickCells, putAt, bnd, slD, List.getElem?_cons_zero, List.getElem?_cons_succ, Mem.cell, Mem.row, cells_own, cells_ro, g8]
  refine SK_bxS h8 (cs := brC (bTake tr wt) ir2 (.slice none 0 0)) (by simp [wkB, retV, stabOk, dC, ev, fillD, pickCells, putAt, bnd, slD, List.getElem?_cons_zero, List.getElem?_cons_succ, Mem.cell, Mem.row, cells_own, cells_ro, brC, bTake, zFl]; rfl) fun ib m2 h2 _ _ => ?_
  simp -implicitDefEqProofs (disch := first | assumption | omega | fail) [wkB, retV, stabOk, dC, ev, fillD, pickCells, putAt, bnd, slD, List.getElem?_cons_zero, List.getElem?_cons_succ, Mem.cell, Mem.row, cells_own, cells_ro]
  refine hq ib ((some ib, .own (brC (bTake tr wt) ir2 (.slice none 0 0)) 86) :: (none, .own [] 5) :: H2) m2 ?_ ⟨⟨ir2, H2, none, [], rfl, hR8, rfl, fun _ => rfl⟩, ⟨by show (0 : Int) ≤ 0; omega, by show (0 : Int) ≤ 3; omega, by show (0 : Int) ≤ 0; omega, (fun _ => by show (0 : Int) ≤ 2; omega), by show (0 : Int) ≤ 8192; omega, by show (0 : Nat) ≤ 8192; omega⟩⟩
  have h3 := ((h2.del 1).non (.own [] 5))
  refine h3.perm ?_
  show List.Perm ((none, .own [] 5) :: (some ib, .own (brC (bTake tr wt) ir2 (.slice none 0 0)) 86) :: (l ++ H2)) ((some ib, .own (brC (bTake tr wt) ir2 (.slice none 0 0)) 86) :: (none, .own [] 5) :: (H2 ++ l))
  exact (List.Perm.swap _ _ _).trans ((List.perm_append_comm.cons _).cons _)
end Go.Proofs.YthmhappejchilaaGreatDoor.Ab

set_option linter.unusedVariables false
set_option linter.unusedSimpArgs false
namespace Go.Proofs.YthmhappejchilaaGreatDoor.Ab
open Go Go.RowKit
set_option maxHeartbeats 4000000
set_option maxRecDepth 100000
/-- What sends a file. -/
structure Sb where
  tr : Int
  wt : Int
  part : Sn
  rest : List Sn
  over : Bool
  err : Nat
def sbAft (s : Sb) : Sb :=
  if s.part.phase ≠ 3 then s
  else match s.rest with
    | [] => { s with over := true, err := s.part.err }
    | x :: r => if s.part.err ≠ 0 then { s with over := true, err := s.part.err } else { s with part := x, rest := r }
noncomputable def sbPut (s : Sb) (c : UInt8) : Sb × List UInt8 := if s.over = true then (s, []) else (sbAft { s with part := (sPutF s.part c).1 }, (sPutF s.part c).2)
noncomputable def sbTick (s : Sb) : Sb × List UInt8 := if s.over = true then (s, []) else (sbAft { s with part := (sTickF s.part).1 }, (sTickF s.part).2)
noncomputable def sbPuts : Sb → List UInt8 → List UInt8 → Sb × List UInt8
  | s, out, [] => (s, out)
  | s, out, c :: l => sbPuts (sbPut s c).1 (out ++ (sbPut s c).2) l
/-- Both talk, for a tick. -/
noncomputable def talk1 (x : Sb × Br × List UInt8) : Sb × Br × List UInt8 :=
  if 0 < (sbPuts (sbTick x.1).1 (sbTick x.1).2 (x.2.2 ++ (bTickF x.2.1).2)).2.length then
    ((sbPuts (sbTick x.1).1 (sbTick x.1).2 (x.2.2 ++ (bTickF x.2.1).2)).1, (bPutF (bTickF x.2.1).1 (sbPuts (sbTick x.1).1 (sbTick x.1).2 (x.2.2 ++ (bTickF x.2.1).2)).2).1, (bPutF (bTickF x.2.1).1 (sbPuts (sbTick x.1).1 (sbTick x.1).2 (x.2.2 ++ (bTickF x.2.1).2)).2).2)
  else ((sbPuts (sbTick x.1).1 (sbTick x.1).2 (x.2.2 ++ (bTickF x.2.1).2)).1, (bTickF x.2.1).1, [])
noncomputable def talkN : Nat → Sb × Br × List UInt8 → Sb × Br × List UInt8
  | 0, x => x
  | n + 1, x => talkN n (talk1 x)
theorem talkN_add (a b : Nat) (x : Sb × Br × List UInt8) : talkN (a + b) x = talkN b (talkN a x) := by
  induction a generalizing x with
  | zero => simp [talkN]
  | succ a ih => rw [show a + 1 + b = (a + b) + 1 by omega]; simp only [talkN]; exact ih _
/-- A step, by its parts. -/
theorem talk1_of {s s1 s2 : Sb} {r r1 r2 : Br} {up u1 down up2 : List UInt8} (h1 : bTickF r = (r1, u1)) (h2 : sbTick s = (s1, [])) (h3 : sbPuts s1 [] (up ++ u1) = (s2, down)) (h4 : 0 < down.length) (h5 : bPutF r1 down = (r2, up2)) :
    talk1 (s, r, up) = (s2, r2, up2) := by
  unfold talk1
  simp only [h1, h2, h3, h5]
  rw [if_pos h4]
theorem talk1_no {s s1 s2 : Sb} {r r1 : Br} {up u1 : List UInt8} (h1 : bTickF r = (r1, u1)) (h2 : sbTick s = (s1, [])) (h3 : sbPuts s1 [] (up ++ u1) = (s2, [])) : talk1 (s, r, up) = (s2, r1, []) := by
  unfold talk1
  simp only [h1, h2, h3]
  rw [if_neg (by simp)]
def zerosL : List UInt8 := List.replicate 128 0
theorem zeros_len : zerosL.length = 128 := by simp [zerosL]
theorem ofN_succ (k : Nat) : UInt8.ofNat k + 1 = UInt8.ofNat (k + 1) := by
  apply UInt8.toNat_inj.1
  rw [UInt8.toNat_add, UInt8.toNat_ofNat', UInt8.toNat_ofNat']
  have : (1 : UInt8).toNat = 1 := rfl
  rw [this]; omega
/-- A sender whose first answer comes, and one that goes on. -/
theorem sTick_sb {s : Sb} (ho : s.over = false) (h : 1 < s.part.left) (hp : s.part.phase ≠ 3) : sbTick s = ({ s with part := { s.part with left := s.part.left - 1 } }, []) := by
  unfold sbTick
  rw [if_neg (by rw [ho]; simp), sTick_wait h hp]
  simp only
  unfold sbAft
  rw [if_pos (by simpa using hp)]
theorem sPut_sb {s : Sb} {c : UInt8} {p : Sn} {o : List UInt8} (ho : s.over = false) (h : sPutF s.part c = (p, o)) (hp : p.phase ≠ 3) : sbPut s c = ({ s with part := p }, o) := by
  unfold sbPut
  rw [if_neg (by rw [ho]; simp), h]
  simp only
  unfold sbAft
  rw [if_pos (by simpa using hp)]
theorem sPut_sbn {s : Sb} {c : UInt8} {p x : Sn} {l : List Sn} {o : List UInt8} (ho : s.over = false) (h : sPutF s.part c = (p, o)) (hp : p.phase = 3) (he : p.err = 0) (hr : s.rest = x :: l) : sbPut s c = ({ s with part := x, rest := l }, o) := by
  unfold sbPut
  rw [if_neg (by rw [ho]; simp), h]
  simp only
  unfold sbAft
  rw [if_neg (by simp [hp])]
  simp only [hr]
  rw [if_neg (by simp [he])]
theorem sPut_sbe {s : Sb} {c : UInt8} {p : Sn} {o : List UInt8} (ho : s.over = false) (h : sPutF s.part c = (p, o)) (hp : p.phase = 3) (hr : s.rest = []) : sbPut s c = ({ s with part := p, over := true, err := p.err }, o) := by
  unfold sbPut
  rw [if_neg (by rw [ho]; simp), h]
  simp only
  unfold sbAft
  rw [if_neg (by simp [hp])]
  simp only [hr]
theorem bTick_wait {r : Br} (ho : r.over = false) (hp : r.part.over = false) (hl : 1 < r.part.left) : bTickF r = ({ r with part := { r.part with left := r.part.left - 1 } }, []) := by
  unfold bTickF
  rw [if_neg (by rw [ho]; simp), rTick_wait hp hl]
  simp only
  unfold aftF
  rw [if_pos (by simpa using hp)]
theorem bTick_first {r : Br} (ho : r.over = false) (hp : r.part.over = false) (hl : r.part.left = 1) (hb : r.part.begun = false) (ht : r.part.tries ≠ 0) (hc : r.part.crc = true) (hbf : r.part.buffer = []) :
    bTickF r = ({ r with part := { r.part with left := r.part.wait, tries := r.part.tries - 1 } }, [67]) := by
  unfold bTickF
  rw [if_neg (by rw [ho]; simp), rTick_first hp hl hb ht hc hbf]
  simp only
  unfold aftF
  rw [if_pos (by simpa using hp)]
theorem bPut_to {r : Br} {b o : List UInt8} {p : Rc} (ho : r.over = false) (h : rPutF r.part b = (p, o)) : bPutF r b = (aftF { r with part := p }, o) := by
  unfold bPutF
  rw [if_neg (by rw [ho]; simp), h]
/-- What the receiver of the blocks is, ahead of the next. -/
def rMid (tr wt : Int) (bs : List Bk) (k : Nat) (x : Int) (b : Bool) : Rc := { rOf tr wt 1 true true 1 with left := x, tries := clampI 1 9 tr - 1, number := UInt8.ofNat (k + 1), begun := b, data := (bs.take k).flatMap (·.2), blocks := (k : Int) }
/-- What takes one block alone: behind the first answer, and when it is there. -/
def rAsk (tr wt : Int) : Rc := { rOf tr wt 0 true false 1 with left := clampI 1 99 wt, tries := clampI 1 9 tr - 1 }
def rOne (tr wt : Int) (d : List UInt8) : Rc := { rAsk tr wt with data := d, number := 1, blocks := 1, begun := true, over := true, err := 0 }
theorem rPut_one {tr wt : Int} {d : List UInt8} (h : d.length = 128) : rPutF (rAsk tr wt) (blkL 0 d true) = (rOne tr wt d, [6]) := by
  have hp := rPut_blk (r := rAsk tr wt) (d := d) rfl rfl (.inl h)
  have hp : rPutF (rAsk tr wt) (blkL 0 d true) = _ := hp
  rw [hp]
  unfold finF
  rw [if_pos ⟨rfl, by simp [rAsk, rOf]⟩]
  rfl
theorem rPut_mid {tr wt : Int} {bs : List Bk} {k : Nat} {x : Int} {b : Bool} {d : List UInt8} (hk : bs[k]? = some (UInt8.ofNat (k + 1), d)) (hd : d.length = 128 ∨ d.length = 1024) :
    rPutF (rMid tr wt bs k x b) (blkL (UInt8.ofNat (k + 1)) d true) = (rMid tr wt bs (k + 1) (clampI 1 99 wt) true, [6]) := by
  have hp := rPut_blk (r := rMid tr wt bs k x b) (d := d) rfl rfl hd
  have hp : rPutF (rMid tr wt bs k x b) (blkL (UInt8.ofNat (k + 1)) d true) = _ := hp
  rw [hp]
  unfold finF
  rw [if_neg (fun h => by cases h.1)]
  have e1 : UInt8.ofNat (k + 1) + 1 = UInt8.ofNat (k + 1 + 1) := ofN_succ (k + 1)
  have e2 : (bs.take k).flatMap (·.2) ++ d = (bs.take (k + 1)).flatMap (·.2) := by
    rw [List.take_add_one, hk]; simp
  have e3 : ((k : Int) + 1) = ((k + 1 : Nat) : Int) := by omega
  simp only [rMid, e1, e2, e3]
  rfl
section
variable (tr wt : Int) (hd D : List UInt8) (bs : List Bk) (f : Fl)
def sb0 : Sb := ⟨tr, wt, snOf tr wt [(0, hd)] true false, [snOf tr wt bs true true, snOf tr wt [(0, zerosL)] true false], false, 0⟩
def X1 : Sb × Br × List UInt8 := (⟨tr, wt, { snOf tr wt [(0, hd)] true false with phase := 1 }, [snOf tr wt bs true true, snOf tr wt [(0, zerosL)] true false], false, 0⟩, ⟨tr, wt, rOf tr wt 1 true true 1, 1, f, [], false, 0⟩, [6])
def sTwo (k : Nat) : Sb := ⟨tr, wt, { snOf tr wt bs true true with phase := if k < bs.length then 1 else 2, at_ := k }, [snOf tr wt [(0, zerosL)] true false], false, 0⟩
def rTwo (k : Nat) : Br :=
  if k < bs.length then ⟨tr, wt, rMid tr wt bs (k + 1) (clampI 1 99 wt) true, 1, f, [], false, 0⟩
  else ⟨tr, wt, rOf tr wt 0 true false 1, 2, f, D, false, 0⟩
end
/-- What the blocks of a file are. -/
structure BlkOk (D : List UInt8) (bs : List Bk) : Prop where
  no : ∀ k x, bs[k]? = some x → x.1 = UInt8.ofNat (k + 1)
  ln : ∀ x ∈ bs, x.2.length = 128 ∨ x.2.length = 1024
  fl : D.length ≤ (bs.flatMap (·.2)).length
  tk : (bs.flatMap (·.2)).take D.length = D
theorem talk_1 {tr wt : Int} {hd : List UInt8} {bs : List Bk} {f : Fl} (hw : 2 ≤ clampI 1 99 wt) (hl : hd.length = 128) (hf : readF hd = some f) : talk1 (sb0 tr wt hd bs, bTake tr wt, []) = X1 tr wt hd bs f := by
  have ht := (clamp_le 1 9 tr (by omega)).1
  have h1 : bTickF (bTake tr wt) = (⟨tr, wt, rAsk tr wt, 0, zFl, [], false, 0⟩, [67]) := by
    rw [bTick_first rfl rfl rfl rfl (by show clampI 1 9 tr ≠ 0; omega) rfl rfl]; rfl
  have h2 := sTick_sb (s := sb0 tr wt hd bs) rfl (by show 1 < clampI 1 99 wt; omega) (by show (0 : Nat) ≠ 3; omega)
  refine talk1_of h1 h2 (s2 := (X1 tr wt hd bs f).1) (down := blkL 0 hd true) ?_ (by rw [blk_len]; omega) ?_
  · rw [List.nil_append]
    simp only [sbPuts]
    rw [sPut_sb (p := { snOf tr wt [(0, hd)] true false with phase := 1 }) (o := blkL 0 hd true) rfl ?_ (by simp)]
    · rfl
    · rw [sPut_go rfl rfl rfl]
      unfold sNextF
      rw [if_pos (by show 0 < 1; omega), sNow_data (n := 0) (d := hd) rfl rfl (.inl hl)]
      rfl
  · rw [bPut_to rfl (rPut_one hl)]
    unfold aftF
    rw [if_neg (by simp [rOne]), if_neg (by simp [rOne]), if_pos (by simp)]
    have e : readF (rOne tr wt hd).data = some f := hf
    simp only
    rw [e]
    rfl
section
variable {tr wt : Int} {hd D : List UInt8} {bs : List Bk} {f : Fl}
theorem recv_blk {k : Nat} {x : Int} {b : Bool} {d : List UInt8} (hk : bs[k]? = some (UInt8.ofNat (k + 1), d)) (hd : d.length = 128 ∨ d.length = 1024) :
    bPutF ⟨tr, wt, rMid tr wt bs k x b, 1, f, [], false, 0⟩ (blkL (UInt8.ofNat (k + 1)) d true) = (rTwo tr wt D bs f k, [6]) := by
  have hlt : k < bs.length := (List.getElem?_eq_some_iff.1 hk).1
  rw [bPut_to rfl (rPut_mid hk hd)]
  unfold aftF rTwo
  rw [if_pos (by exact rfl), if_pos hlt]
theorem recv_eot {x : Int} {b : Bool} (hB : BlkOk D bs) (hf : f.size = (D.length : Int)) : bPutF ⟨tr, wt, rMid tr wt bs bs.length x b, 1, f, [], false, 0⟩ [4] = (rTwo tr wt D bs f bs.length, [6]) := by
  have hp := rPut_eot (r := rMid tr wt bs bs.length x b) rfl rfl rfl
  rw [bPut_to rfl hp]
  simp only [Prod.mk.injEq, and_true]
  have e1 : (rMid tr wt bs bs.length x b).data = bs.flatMap (·.2) := by simp [rMid]
  have hfl := hB.fl
  unfold aftF
  rw [if_neg (by simp), if_neg (by simp), if_neg (by simp), if_pos (by simp)]
  simp only
  rw [e1, if_neg (by rw [hf]; omega)]
  unfold rTwo
  rw [if_neg (by omega), hf]
  simp only [Int.toNat_natCast]
  rw [hB.tk]
  rfl
theorem talk_2 (hw : 2 ≤ clampI 1 99 wt) (hB : BlkOk D bs) (hf : f.size = (D.length : Int)) : talk1 (X1 tr wt hd bs f) = (sTwo tr wt bs 0, rTwo tr wt D bs f 0, [6]) := by
  have ht := (clamp_le 1 9 tr (by omega)).1
  have h1 : bTickF (X1 tr wt hd bs f).2.1 = (⟨tr, wt, rMid tr wt bs 0 (clampI 1 99 wt) false, 1, f, [], false, 0⟩, [67]) := by
    rw [bTick_first rfl rfl rfl rfl (by show clampI 1 9 tr ≠ 0; omega) rfl rfl]; rfl
  have h2 := sTick_sb (s := (X1 tr wt hd bs f).1) rfl (by show 1 < clampI 1 99 wt; omega) (by show (1 : Nat) ≠ 3; omega)
  have e6 : sbPut ({ (X1 tr wt hd bs f).1 with part := { (X1 tr wt hd bs f).1.part with left := (X1 tr wt hd bs f).1.part.left - 1 } }) 6 = (⟨tr, wt, snOf tr wt bs true true, [snOf tr wt [(0, zerosL)] true false], false, 0⟩, []) := by
    refine sPut_sbn (p := { snOf tr wt [(0, hd)] true false with phase := 3, at_ := 1 }) rfl ?_ rfl rfl rfl
    rw [sPut_ack (.inl rfl) rfl]
    unfold sNextF
    rw [if_neg (by show ¬ (0 + 1 < 1); omega), if_neg (fun h => by cases h.1)]
    rfl
  by_cases hn : 0 < bs.length
  · obtain ⟨⟨n0, d0⟩, hb0⟩ : ∃ x, bs[0]? = some x := ⟨bs[0], List.getElem?_eq_getElem hn⟩
    have hno := hB.no 0 _ hb0
    simp only at hno
    subst hno
    have hld := hB.ln _ (List.mem_of_getElem? hb0)
    refine talk1_of h1 h2 (s2 := sTwo tr wt bs 0) (down := blkL (UInt8.ofNat (0 + 1)) d0 true) ?_ (by rw [blk_len]; omega) (recv_blk hb0 hld)
    show sbPuts _ [] [6, 67] = _
    simp only [sbPuts]
    rw [e6]
    simp only
    rw [sPut_sb (p := { snOf tr wt bs true true with phase := 1 }) (o := blkL (UInt8.ofNat (0 + 1)) d0 true) rfl ?_ (by simp)]
    · simp only [List.nil_append, sTwo, if_pos hn]
      rfl
    · rw [sPut_go rfl rfl rfl]
      unfold sNextF
      rw [if_pos (by exact hn), sNow_data (n := UInt8.ofNat (0 + 1)) (d := d0) rfl hb0 hld]
      rfl
  · have hn0 : bs.length = 0 := by omega
    have hr := recv_eot (tr := tr) (wt := wt) (f := f) (x := clampI 1 99 wt) (b := false) hB hf
    rw [hn0] at hr
    refine talk1_of h1 h2 (s2 := sTwo tr wt bs 0) (down := [4]) ?_ (by simp) hr
    show sbPuts _ [] [6, 67] = _
    simp only [sbPuts]
    rw [e6]
    simp only
    rw [sPut_sb (p := { snOf tr wt bs true true with phase := 2 }) (o := [4]) rfl ?_ (by simp)]
    · simp only [List.nil_append, sTwo, if_neg hn]
      rfl
    · rw [sPut_go rfl rfl rfl]
      unfold sNextF
      rw [if_neg (by exact hn), if_pos ⟨rfl, by simp [snOf]⟩]
      unfold sNowF
      rw [if_neg (by simp), if_pos rfl]
      rfl
theorem talk_k {k : Nat} (hk : k < bs.length) (hw : 2 ≤ clampI 1 99 wt) (hB : BlkOk D bs) (hf : f.size = (D.length : Int)) : talk1 (sTwo tr wt bs k, rTwo tr wt D bs f k, [6]) = (sTwo tr wt bs (k + 1), rTwo tr wt D bs f (k + 1), [6]) := by
  have h1 : bTickF (rTwo tr wt D bs f k) = (⟨tr, wt, rMid tr wt bs (k + 1) (clampI 1 99 wt - 1) true, 1, f, [], false, 0⟩, []) := by
    unfold rTwo
    rw [if_pos hk, bTick_wait rfl rfl (by show 1 < clampI 1 99 wt; omega)]
    rfl
  have hs : sTwo tr wt bs k = ⟨tr, wt, { snOf tr wt bs true true with phase := 1, at_ := k }, [snOf tr wt [(0, zerosL)] true false], false, 0⟩ := by unfold sTwo; rw [if_pos hk]
  have h2 := sTick_sb (s := sTwo tr wt bs k) rfl (by show 1 < clampI 1 99 wt; omega) (by rw [hs]; simp)
  by_cases hn : k + 1 < bs.length
  · obtain ⟨⟨n0, d0⟩, hb0⟩ : ∃ x, bs[k + 1]? = some x := ⟨bs[k + 1], List.getElem?_eq_getElem hn⟩
    have hno := hB.no (k + 1) _ hb0
    simp only at hno
    subst hno
    have hld := hB.ln _ (List.mem_of_getElem? hb0)
    refine talk1_of h1 h2 (s2 := sTwo tr wt bs (k + 1)) (down := blkL (UInt8.ofNat (k + 1 + 1)) d0 true) ?_ (by rw [blk_len]; omega) (recv_blk hb0 hld)
    show sbPuts _ [] [6] = _
    simp only [sbPuts]
    rw [sPut_sb (p := { snOf tr wt bs true true with phase := 1, at_ := k + 1 }) (o := blkL (UInt8.ofNat (k + 1 + 1)) d0 true) rfl ?_ (by simp)]
    · simp only [List.nil_append, sTwo, if_pos hn]
    · rw [hs, sPut_ack (.inl rfl) rfl]
      simp only [if_true]
      unfold sNextF
      rw [if_pos (by exact hn), sNow_data (n := UInt8.ofNat (k + 1 + 1)) (d := d0) rfl hb0 hld]
      rfl
  · have hn0 : k + 1 = bs.length := by omega
    have hr := recv_eot (tr := tr) (wt := wt) (f := f) (x := clampI 1 99 wt - 1) (b := true) hB hf
    rw [← hn0] at hr
    refine talk1_of h1 h2 (s2 := sTwo tr wt bs (k + 1)) (down := [4]) ?_ (by simp) hr
    show sbPuts _ [] [6] = _
    simp only [sbPuts]
    rw [sPut_sb (p := { snOf tr wt bs true true with phase := 2, at_ := k + 1 }) (o := [4]) rfl ?_ (by simp)]
    · simp only [List.nil_append, sTwo, if_neg hn]
    · rw [hs, sPut_ack (.inl rfl) rfl]
      simp only [if_true]
      unfold sNextF
      rw [if_neg (by exact hn), if_pos ⟨rfl, by simp⟩]
      unfold sNowF
      rw [if_neg (by simp), if_pos rfl]
      rfl
theorem recv_z : ∃ r : Br, bPutF ⟨tr, wt, rAsk tr wt, 2, f, D, false, 0⟩ (blkL 0 zerosL true) = (r, [6]) ∧ r.over = true ∧ r.err = 0 ∧ r.data = D ∧ r.file = f := by
  rw [bPut_to rfl (rPut_one zeros_len)]
  refine ⟨_, rfl, ?_⟩
  have he : endsB (rOne tr wt zerosL).data = true := by
    show endsB zerosL = true
    decide +kernel
  unfold aftF
  rw [if_neg (by simp [rOne]), if_neg (by simp [rOne]), if_neg (by simp), if_neg (by simp), if_neg (by simp only; rw [he]; simp)]
  exact ⟨rfl, rfl, rfl, rfl⟩
theorem talk_z (hw : 2 ≤ clampI 1 99 wt) : ∃ r : Br, talk1 (sTwo tr wt bs bs.length, rTwo tr wt D bs f bs.length, [6]) = (⟨tr, wt, { snOf tr wt [(0, zerosL)] true false with phase := 1 }, [], false, 0⟩, r, [6]) ∧ r.over = true ∧ r.err = 0 ∧ r.data = D ∧ r.file = f := by
  have ht := (clamp_le 1 9 tr (by omega)).1
  have hr : rTwo tr wt D bs f bs.length = ⟨tr, wt, rOf tr wt 0 true false 1, 2, f, D, false, 0⟩ := by unfold rTwo; rw [if_neg (by omega)]
  have hs : sTwo tr wt bs bs.length = ⟨tr, wt, { snOf tr wt bs true true with phase := 2, at_ := bs.length }, [snOf tr wt [(0, zerosL)] true false], false, 0⟩ := by unfold sTwo; rw [if_neg (by omega)]
  have h1 : bTickF (rTwo tr wt D bs f bs.length) = (⟨tr, wt, rAsk tr wt, 2, f, D, false, 0⟩, [67]) := by
    rw [hr, bTick_first rfl rfl rfl rfl (by show clampI 1 9 tr ≠ 0; omega) rfl rfl]; rfl
  have h2 := sTick_sb (s := sTwo tr wt bs bs.length) rfl (by show 1 < clampI 1 99 wt; omega) (by rw [hs]; simp)
  obtain ⟨r, q1, q2⟩ := recv_z (tr := tr) (wt := wt) (D := D) (f := f)
  have e6 : sbPut ({ sTwo tr wt bs bs.length with part := { (sTwo tr wt bs bs.length).part with left := (sTwo tr wt bs bs.length).part.left - 1 } }) 6 = (⟨tr, wt, snOf tr wt [(0, zerosL)] true false, [], false, 0⟩, []) := by
    rw [hs]
    refine sPut_sbn (p := { snOf tr wt bs true true with phase := 3, at_ := bs.length }) rfl ?_ rfl rfl rfl
    rw [sPut_ack (.inr rfl) rfl]
    unfold sNextF
    rw [if_neg (by simp [snOf]), if_neg (by simp)]
    rfl
  refine ⟨r, talk1_of h1 h2 (s2 := ⟨tr, wt, { snOf tr wt [(0, zerosL)] true false with phase := 1 }, [], false, 0⟩) (down := blkL 0 zerosL true) ?_ (by rw [blk_len]; omega) q1, q2⟩
  show sbPuts _ [] [6, 67] = _
  simp only [sbPuts]
  rw [e6]
  simp only
  rw [sPut_sb (p := { snOf tr wt [(0, zerosL)] true false with phase := 1 }) (o := blkL 0 zerosL true) rfl ?_ (by simp)]
  · rfl
  · rw [sPut_go rfl rfl rfl]
    unfold sNextF
    rw [if_pos (by show 0 < 1; omega), sNow_data (n := 0) (d := zerosL) rfl rfl (.inl zeros_len)]
    rfl
theorem talk_e {r : Br} (hw : 2 ≤ clampI 1 99 wt) (ho : r.over = true) : ∃ s : Sb, talk1 (⟨tr, wt, { snOf tr wt [(0, zerosL)] true false with phase := 1 }, [], false, 0⟩, r, [6]) = (s, r, []) ∧ s.over = true ∧ s.err = 0 := by
  have h1 : bTickF r = (r, []) := by unfold bTickF; rw [if_pos ho]
  have h2 := sTick_sb (s := ⟨tr, wt, { snOf tr wt [(0, zerosL)] true false with phase := 1 }, [], false, 0⟩) rfl (by show 1 < clampI 1 99 wt; omega) (by simp)
  refine ⟨⟨tr, wt, { snOf tr wt [(0, zerosL)] true false with phase := 3, at_ := 1 }, [], true, 0⟩, talk1_no h1 h2 ?_, rfl, rfl⟩
  show sbPuts _ [] [6] = _
  simp only [sbPuts]
  rw [sPut_sbe (p := { snOf tr wt [(0, zerosL)] true false with phase := 3, at_ := 1 }) (o := []) rfl ?_ rfl rfl]
  · rfl
  · rw [sPut_ack (.inl rfl) rfl]
    unfold sNextF
    rw [if_neg (by simp [snOf]), if_neg (by simp [snOf])]
    rfl
theorem talk_fix {s : Sb} {r : Br} (hs : s.over = true) (ho : r.over = true) : ∀ n, talkN n (s, r, []) = (s, r, [])
  | 0 => rfl
  | n + 1 => by
    have h1 : bTickF r = (r, []) := by unfold bTickF; rw [if_pos ho]
    have h2 : sbTick s = (s, []) := by unfold sbTick; rw [if_pos hs]
    have := talk1_no (up := []) h1 h2 (s2 := s) rfl
    rw [talkN, this]
    exact talk_fix hs ho n
theorem talk_mid (hw : 2 ≤ clampI 1 99 wt) (hB : BlkOk D bs) (hf : f.size = (D.length : Int)) : ∀ k, k ≤ bs.length → talkN k (sTwo tr wt bs 0, rTwo tr wt D bs f 0, [6]) = (sTwo tr wt bs k, rTwo tr wt D bs f k, [6])
  | 0, _ => rfl
  | k + 1, h => by
    rw [talkN_add, talk_mid hw hB hf k (by omega)]
    exact talk_k (by omega) hw hB hf
/-- A file that is sent is taken. -/
theorem talk_all {n : Nat} (hw : 2 ≤ clampI 1 99 wt) (hl : hd.length = 128) (hr : readF hd = some f) (hB : BlkOk D bs) (hf : f.size = (D.length : Int)) (hn : bs.length + 4 ≤ n) :
    ∃ s r, talkN n (sb0 tr wt hd bs, bTake tr wt, []) = (s, r, []) ∧ s.over = true ∧ s.err = 0 ∧ r.over = true ∧ r.err = 0 ∧ r.data = D ∧ r.file = f := by
  obtain ⟨q, rfl⟩ : ∃ q, n = 1 + (1 + (bs.length + (1 + (1 + q)))) := ⟨n - bs.length - 4, by omega⟩
  obtain ⟨r, z1, z2, z3, z4, z5⟩ := talk_z (tr := tr) (wt := wt) (D := D) (bs := bs) (f := f) hw
  obtain ⟨s, y1, y2, y3⟩ := talk_e (tr := tr) (wt := wt) (r := r) hw z2
  refine ⟨s, r, ?_, y2, y3, z2, z3, z4, z5⟩
  rw [talkN_add, talkN_add, talkN_add, talkN_add, talkN_add]
  simp only [talkN]
  rw [talk_1 hw hl hr, talk_2 hw hB hf, talk_mid hw hB hf _ (Nat.le_refl _), z1, y1]
  exact talk_fix y2 z2 q
end
end Go.Proofs.YthmhappejchilaaGreatDoor.Ab

set_option linter.unusedVariables false
set_option linter.unusedSimpArgs false
namespace Go.Proofs.YthmhappejchilaaGreatDoor.Ab
open Go Go.RowKit
set_option maxHeartbeats 4000000
set_option maxRecDepth 100000
/-- The parts that are still to be sent. -/
def RsR : List Nat → List HL → List Sn → Prop
  | [], [], [] => True
  | p :: ps, H :: Hs, s :: ss => SnR H p s ∧ RsR ps Hs ss
  | _, _, _ => False
def sbC (s : Sb) (ip : Nat) (vr : Value) : List Value := [.int .i64 s.tr, .int .i64 s.wt, .pointer (some ⟨ip, 0, none⟩), vr, errV s.err, .bool s.over]
def sbH (ib ip ir : Nat) (vr : Value) (cs : List Value) (HP : HL) (HR : List HL) (s : Sb) : HL :=
  (some ib, .own (sbC s ip vr) 82) :: (some ir, .own cs 78) :: (HP ++ HR.flatten)
structure SbR (H : HL) (ib : Nat) (s : Sb) : Prop where
  ex : ∃ ip ir o vr cs HP HR ps, H = sbH ib ip ir vr cs HP HR s ∧ slen vr = some (.int .i64 (s.rest.length : Nat)) ∧ (cellsV vr = [vr] ∧ oneC vr = true) ∧ (s.rest ≠ [] → vr = .slice (some ⟨ir, o, none⟩) s.rest.length 1) ∧ cs.drop o = ps.map (fun p => Value.pointer (some ⟨p, 0, none⟩)) ∧ o ≤ cs.length ∧ SnR HP ip s.part ∧ RsR ps HR s.rest
/-- The blocks of a file's bytes are as the law of their sending wants them. -/
theorem blkOk_split (D : List UInt8) : BlkOk D (numL (splitL true D)) := by
  have hj := splitF_join true D.length D (Nat.le_refl _)
  have e : (numL (splitL true D)).flatMap (·.2) = (splitL true D).flatten := by
    rw [List.flatMap_def, numL_snd]
  refine ⟨fun k x hx => numL_at hx, fun x hx => ?_, by rw [e]; exact hj.1, by rw [e]; exact hj.2⟩
  have : x.2 ∈ (numL (splitL true D)).map (·.2) := List.mem_map_of_mem hx
  rw [numL_snd] at this
  exact splitF_len true _ _ _ this
/-- Rows of parts, and of blocks, as they are handed on. -/
def paX : List Nat → List (List UInt8) → List (Value × List UInt8)
  | v :: vs, p :: ps => (.slice (some ⟨v, 0, none⟩) p.length 1, p) :: paX vs ps
  | _, _ => []
theorem paX_C : ∀ (vs : List Nat) (ps : List (List UInt8)), (paX vs ps).flatMap (fun x => [x.1]) = paC vs ps
  | [], _ => by simp [paX, paC]
  | _ :: _, [] => by simp [paX, paC]
  | v :: vs, p :: ps => by simp [paX, paC, paX_C vs ps]
theorem paX_S : ∀ {vs : List Nat} {ps : List (List UInt8)}, vs.length = ps.length → (paX vs ps).map (·.2) = ps
  | [], [], _ => rfl
  | v :: vs, p :: ps, h => by simp [paX, paX_S (vs := vs) (ps := ps) (by simpa using h)]
theorem paX_len {vs : List Nat} {ps : List (List UInt8)} (h : vs.length = ps.length) : (paX vs ps).length = ps.length := by
  have := congrArg List.length (paX_S h)
  simpa using this
theorem paX_mem : ∀ {vs : List Nat} {ps : List (List UInt8)} {x : Value × List UInt8}, x ∈ paX vs ps → ∃ v, x.1 = .slice (some ⟨v, 0, none⟩) x.2.length 1 ∧ byH (some v) x.2 ∈ paD vs ps ∧ x.2 ∈ ps
  | [], _, x, h => by simp [paX] at h
  | _ :: _, [], x, h => by simp [paX] at h
  | v :: vs, p :: ps, x, h => by
    simp only [paX, List.mem_cons] at h
    rcases h with rfl | h
    · exact ⟨v, rfl, by simp [paD], by simp⟩
    · obtain ⟨w, h1, h2, h3⟩ := paX_mem h
      exact ⟨w, h1, by simp [paD, h2], by simp [h3]⟩
def biX : List Nat → List Bk → List Bi
  | v :: vs, b :: bs => (b.1, .slice (some ⟨v, 0, none⟩) b.2.length 1, b.2) :: biX vs bs
  | _, _ => []
theorem biX_C : ∀ (vs : List Nat) (bs : List Bk), (biX vs bs).flatMap biC = bkC vs bs
  | [], _ => by simp [biX, bkC]
  | _ :: _, [] => by simp [biX, bkC]
  | v :: vs, b :: bs => by
    simp only [biX, bkC, List.flatMap_cons, biX_C vs bs]
    rfl
theorem biX_B : ∀ {vs : List Nat} {bs : List Bk}, vs.length = bs.length → (biX vs bs).map biB = bs
  | [], [], _ => rfl
  | v :: vs, b :: bs, h => by
    simp only [biX, List.map_cons, biX_B (vs := vs) (bs := bs) (by simpa using h)]
    rfl
theorem biX_len {vs : List Nat} {bs : List Bk} (h : vs.length = bs.length) : (biX vs bs).length = bs.length := by
  have := congrArg List.length (biX_B h)
  simpa using this
theorem biX_mem : ∀ {vs : List Nat} {bs : List Bk} {x : Bi}, x ∈ biX vs bs → ∃ v, x.2.1 = .slice (some ⟨v, 0, none⟩) x.2.2.length 1 ∧ byH (some v) x.2.2 ∈ bkD vs bs ∧ biB x ∈ bs
  | [], _, x, h => by simp [biX] at h
  | _ :: _, [], x, h => by simp [biX] at h
  | v :: vs, b :: bs, x, h => by
    simp only [biX, List.mem_cons] at h
    rcases h with rfl | h
    · exact ⟨v, rfl, by simp [bkD], by simp [biB]⟩
    · obtain ⟨w, h1, h2, h3⟩ := biX_mem h
      exact ⟨w, h1, by simp [bkD, h2], by simp [h3]⟩
end Go.Proofs.YthmhappejchilaaGreatDoor.Ab

set_option linter.unusedVariables false
set_option linter.unusedSimpArgs false
namespace Go.Proofs.YthmhappejchilaaGreatDoor.Ab
open Go Go.RowKit
set_option maxHeartbeats 4000000
set_option maxRecDepth 100000
theorem c_bOf {w0 : World} {V : Nat → Prop} {m0 m : Mem} {l : HL} {tr wt : Int} {f : Fl} {v : Value} {D : List UInt8} {Q : Value → Mem → Prop} (ht : Ten w0) (h : Sep m0 V m l) (hv : RdV (fun i => i < m.next) m 1 v (D.map byteV) D.length) (hf : f.ok)
    (h0 : mayB { f with size := D.length } = false → ∀ M, Sep m0 V M l → Old m M → Q (.tuple ⟨[.pointer none, errV 14]⟩) M)
    (h1 : mayB { f with size := D.length } = true → ∀ ib H M, Sep m0 V M (H ++ l) → Old m M → SbR H ib (sb0 tr wt (padL (tellL { f with size := D.length })) (numL (splitL true D))) → Q (.tuple ⟨[.pointer (some ⟨ib, 0, none⟩), .nilIface]⟩) M) :
    AbC Tryz.prog w0 12 [.agg ⟨[.int .i64 tr, .int .i64 wt]⟩, f.v, v] m Q := by
  refine AbC_fn ok12 (by simp) ?_
  obtain ⟨g, hg⟩ : ∃ g : Fl, g = { f with size := (D.length : Int) } := ⟨_, rfl⟩
  rw [← hg] at h0 h1
  have hgok : g.ok := by rw [hg]; exact hf
  have hgv : g.v = .agg ⟨[.string f.nm, .int .i64 (D.length : Int), .int .i64 f.time, .int .i64 f.mode]⟩ := by rw [hg]; rfl
  simp -implicitDefEqProofs (disch := first | assumption | omega | fail) [rc12, ro12, wkB, retV, stabOk, dC, ev, fillD, pickCells, putAt, bnd, slD, List.getElem?_cons_zero, List.getElem?_cons_succ, Mem.cell, Mem.row, cells_own, cells_ro, Fl.v]
  refine SK_bxS (Sep.ofOld h.pt) (cs := [.int .i64 tr, .int .i64 wt]) (by simp [wkB, retV, stabOk, dC, ev, fillD, pickCells, putAt, bnd, slD, List.getElem?_cons_zero, List.getElem?_cons_succ, Mem.cell, Mem.row, cells_own, cells_ro]) fun B m1 hh1 _ _ => ?_
  simp -implicitDefEqProofs (disch := first | assumption | omega | fail) [wkB, retV, stabOk, dC, ev, fillD, pickCells, putAt, bnd, slD, List.getElem?_cons_zero, List.getElem?_cons_succ, Mem.cell, Mem.row, cells_own, cells_ro]
  refine SK_bxS hh1 (cs := [.string f.nm, .int .i64 f.size, .int .i64 f.time, .int .i64 f.mode]) (by simp [wkB, retV, stabOk, dC, ev, fillD, pickCells, putAt, bnd, slD, List.getElem?_cons_zero, List.getElem?_cons_succ, Mem.cell, Mem.row, cells_own, cells_ro]) fun F m2 hh2 _ _ => ?_
  simp -implicitDefEqProofs (disch := first | assumption | omega | fail) [wkB, retV, stabOk, dC, ev, fillD, pickCells, putAt, bnd, slD, List.getElem?_cons_zero, List.getElem?_cons_succ, Mem.cell, Mem.row, cells_own, cells_ro, hv.sl.slen]
  refine SK_stS hh2 0 rfl (o := 1) (vs := [.int .i64 (D.length : Int)]) (cs' := [.string f.nm, .int .i64 (D.length : Int), .int .i64 f.time, .int .i64 f.mode]) (by simp [wkB, retV, stabOk, dC, ev, fillD, pickCells, putAt, bnd, slD, List.getElem?_cons_zero, List.getElem?_cons_succ, Mem.cell, Mem.row, cells_own, cells_ro]) (by simp [wkB, retV, stabOk, dC, ev, fillD, pickCells, putAt, bnd, slD, List.getElem?_cons_zero, List.getElem?_cons_succ, Mem.cell, Mem.row, cells_own, cells_ro]) (by simp) rfl rfl rfl fun m3 hh3 _ => ?_
  have g3 := hh3.get 0 rfl
  simp -implicitDefEqProofs (disch := first | assumption | omega | fail) [wkB, retV, stabOk, dC, ev, fillD, pickCells, putAt, bnd, slD, List.getElem?_cons_zero, List.getElem?_cons_succ, Mem.cell, Mem.row, cells_own, cells_ro, g3]
  rw [← hgv]
  refine c_Make hh3.pt ht hgok (fun hm M oM => ?_) fun hm M i oM hi1 hi2 hi3 => ?_
  · have hh4 := hh3.old oM
    simp -implicitDefEqProofs (disch := first | assumption | omega | fail) [wkB, retV, stabOk, dC, ev, fillD, pickCells, putAt, bnd, slD, List.getElem?_cons_zero, List.getElem?_cons_succ, Mem.cell, Mem.row, cells_own, cells_ro]
    exact h0 hm M (by simpa using h.addO (H := []) (hh4.tl.tl)) (hh4.toOld)
  · have hh4 := hh3.new (ob := some i) oM (fun j hj => by cases hj; exact ⟨hi1, hi2, hi3⟩)
    have g4 := hh4.get 2 rfl
    simp -implicitDefEqProofs (disch := first | assumption | omega | fail) [wkB, retV, stabOk, dC, ev, fillD, pickCells, putAt, bnd, slD, List.getElem?_cons_zero, List.getElem?_cons_succ, Mem.cell, Mem.row, cells_own, cells_ro, rc12_0, g4]
    have hml : (padL (tellL g)).length = 128 := pad_len hm
    have hD : D.length ≤ 1000000000000 := by
      have h8 := hm
      simp only [mayB, Bool.and_eq_true, decide_eq_true_eq] at h8
      have h9 := h8.2.2.1
      rw [hg] at h9
      simp only at h9
      omega
    obtain ⟨hd, hhd⟩ : ∃ hd, padL (tellL g) = hd := ⟨_, rfl⟩
    rw [hhd] at hh4 hml h1
    refine SK_bslS hh4 (cs := [.int .u8 0, .slice (some ⟨i, 0, none⟩) 128 1]) (by simp [fillD, pickCells, wkB, retV, stabOk, dC, ev, fillD, pickCells, putAt, bnd, slD, List.getElem?_cons_zero, List.getElem?_cons_succ, Mem.cell, Mem.row, cells_own, cells_ro]) rfl fun b5 m5 hh5 _ _ => ?_
    have g5 := hh5.get 3 rfl
    simp -implicitDefEqProofs (disch := first | assumption | omega | fail) [wkB, retV, stabOk, dC, ev, fillD, pickCells, putAt, bnd, slD, List.getElem?_cons_zero, List.getElem?_cons_succ, Mem.cell, Mem.row, cells_own, cells_ro, g5]
    refine c_sOf (xs := [((0 : UInt8), .slice (some ⟨i, 0, none⟩) 128 1, hd)]) hh5 (hh5.rd 0 (k := 1) (sz := 2) rfl rfl (fun e => by cases e) (fun j hj => by cases hj; exact hh5.lt 0 rfl)) ⟨fun x hx => ?_⟩ (by simp) fun is1 H1 m6 hh6 o6 hR1 => ?_
    · obtain rfl := List.mem_singleton.1 hx
      have hrd : RdV (fun j => j < m5.next) m5 1 (slV (some i) hd.length 1) (hd.map byteV) hd.length := hh5.rd 1 (k := hd.length) (sz := 1) rfl (by simp) (fun e => by cases e) (fun j hj => by cases hj; exact hh5.lt 1 rfl)
      rw [hml] at hrd
      exact ⟨by rw [hml]; exact hrd, .inl hml⟩
    have g6 := hh6.mem (List.mem_append_right _ (List.mem_cons_of_mem _ (List.mem_cons_of_mem _ (List.mem_cons_of_mem _ (List.mem_cons_self ..)))))
    simp -implicitDefEqProofs (disch := first | assumption | omega | fail) [wkB, retV, stabOk, dC, ev, fillD, pickCells, putAt, bnd, slD, List.getElem?_cons_zero, List.getElem?_cons_succ, Mem.cell, Mem.row, cells_own, cells_ro, g6]
    refine c_bSplit hh6 ((hv.sep hh6).o) hD fun oo vs m7 hh7 o7 hvs hoo => ?_
    have g7 := hh7.mem (List.mem_append_right _ (List.mem_append_right _ (List.mem_cons_of_mem _ (List.mem_cons_of_mem _ (List.mem_cons_of_mem _ (List.mem_cons_self ..))))))
    simp -implicitDefEqProofs (disch := first | assumption | omega | fail) [wkB, retV, stabOk, dC, ev, fillD, pickCells, putAt, bnd, slD, List.getElem?_cons_zero, List.getElem?_cons_succ, Mem.cell, Mem.row, cells_own, cells_ro, g7]
    have hnl := splitF_num true D.length D
    have hnl : (splitL true D).length ≤ D.length / 128 + 1 := hnl
    have hpl := splitF_len true D.length D
    have hpl : ∀ p ∈ splitL true D, p.length = 128 ∨ p.length = 1024 := hpl
    have hr7 : RdV (fun j => j < m7.next) m7 1 (slV oo (splitL true D).length 1) (paC vs (splitL true D)) (splitL true D).length := hh7.rdm (ob := oo) (List.mem_append_left _ (List.mem_cons_self ..)) (paC_len hvs) hoo (fun j hj => by subst hj; exact hh7.lt 0 rfl)
    have hS := paX_S hvs
    have hL := paX_len hvs
    rw [← paX_C, ← hL] at hr7
    rw [← hL]
    refine c_bNumber hh7 hr7 (fun x hx => ?_) (by rw [hL]; omega) fun ob vs2 m8 hh8 o8 hvs2 hob => ?_
    · obtain ⟨w, w1, w2, w3⟩ := paX_mem hx
      have hw := hpl _ w3
      have hmem : byH (some w) x.2 ∈ ((oo, Ent.own (paC vs (splitL true D)) 24) :: paD vs (splitL true D)) ++ (H1 ++ [(some b5, .own [.int .u8 0, .slice (some ⟨i, 0, none⟩) 128 1] 50), (some i, .own (hd.map byteV) 5), (some F, .own [.string f.nm, .int .i64 (D.length : Int), .int .i64 f.time, .int .i64 f.mode] 30), (some B, .own [.int .i64 tr, .int .i64 wt] 23)]) := List.mem_append_left _ (List.mem_cons_of_mem _ w2)
      rw [w1]
      exact ⟨hh7.rdm (ob := some w) hmem (by simp) (fun e => by cases e) (fun j hj => by cases hj; exact (hh7.ok _ hmem w rfl).2.1), by omega, by omega⟩
    rw [hS] at hh8
    rw [hL] at hvs2 hob ⊢
    obtain ⟨N, hN⟩ : ∃ N, numL (splitL true D) = N := ⟨_, rfl⟩
    have hNl : N.length = (splitL true D).length := by rw [← hN, numL_len]
    have hNf : ∀ x ∈ N, x.2.length = 128 ∨ x.2.length = 1024 := fun x hx => by rw [← hN] at hx; exact (blkOk_split D).ln x hx
    rw [hN] at hh8 h1
    rw [← hNl] at hvs2 hob ⊢
    have g8 := hh8.mem (List.mem_append_right _ (List.mem_append_right _ (List.mem_append_right _ (List.mem_cons_of_mem _ (List.mem_cons_of_mem _ (List.mem_cons_of_mem _ (List.mem_cons_self ..)))))))
    simp -implicitDefEqProofs (disch := first | assumption | omega | fail) [wkB, retV, stabOk, dC, ev, fillD, pickCells, putAt, bnd, slD, List.getElem?_cons_zero, List.getElem?_cons_succ, Mem.cell, Mem.row, cells_own, cells_ro, g8]
    have hBB := biX_B hvs2
    have hBL := biX_len hvs2
    have hr8 : RdV (fun j => j < m8.next) m8 2 (slV ob N.length 2) (bkC vs2 N) N.length := hh8.rdm (ob := ob) (List.mem_append_left _ (List.mem_cons_self ..)) (bkC_len hvs2) hob (fun j hj => by subst hj; exact hh8.lt 0 rfl)
    rw [← biX_C] at hr8
    have hr8 : RdV (fun j => j < m8.next) m8 2 (slV ob N.length 2) ((biX vs2 N).flatMap biC) (biX vs2 N).length := by rw [hBL]; exact hr8
    have hbi8 : BiOk m8 (biX vs2 N) := ⟨fun x hx => by
      obtain ⟨w, w1, w2, w3⟩ := biX_mem hx
      have hw : x.2.2.length = 128 ∨ x.2.2.length = 1024 := hNf _ w3
      have hmem := List.mem_append_left (((oo, Ent.own (paC vs (splitL true D)) 24) :: paD vs (splitL true D)) ++ (H1 ++ [(some b5, .own [.int .u8 0, .slice (some ⟨i, 0, none⟩) 128 1] 50), (some i, .own (hd.map byteV) 5), (some F, .own [.string f.nm, .int .i64 (D.length : Int), .int .i64 f.time, .int .i64 f.mode] 30), (some B, .own [.int .i64 tr, .int .i64 wt] 23)])) (List.mem_cons_of_mem (ob, Ent.own (bkC vs2 N) 50) w2)
      rw [w1]
      exact ⟨hh8.rdm (ob := some w) hmem (by simp) (fun e => by cases e) (fun j hj => by cases hj; exact (hh8.ok _ hmem w rfl).2.1), hw⟩⟩
    refine c_sOf (xs := biX vs2 N) hh8 hr8 hbi8 (by rw [hBL, hNl]; omega) fun is2 H2 m9 hh9 o9 hR2 => ?_
    rw [hBB] at hR2
    have hh9 : Sep m (fun i => i < m.next) m9 (H2 ++ (H1 ++ [(some B, .own [.int .i64 tr, .int .i64 wt] 23)])) := hh9.sub ((((List.sublist_append_right [(some b5, Ent.own [.int .u8 0, .slice (some ⟨i, 0, none⟩) 128 1] 50), (some i, .own (hd.map byteV) 5), (some F, .own [.string f.nm, .int .i64 (D.length : Int), .int .i64 f.time, .int .i64 f.mode] 30)] [(some B, .own [.int .i64 tr, .int .i64 wt] 23)]).append_left H1).trans ((List.sublist_append_right _ _).trans (List.sublist_append_right _ _))).append_left H2)
    have g9 := hh9.mem (List.mem_append_right _ (List.mem_append_right _ (List.mem_cons_self ..)))
    simp -implicitDefEqProofs (disch := first | assumption | omega | fail) [wkB, retV, stabOk, dC, ev, fillD, pickCells, putAt, bnd, slD, List.getElem?_cons_zero, List.getElem?_cons_succ, Mem.cell, Mem.row, cells_own, cells_ro, g9]
    refine c_Empty ?_
    have hz := hh9.push (.own ((List.replicate 128 (0 : UInt8)).map byteV) 5)
    obtain ⟨m10, hm10⟩ : ∃ m10, m9.push (.own ((List.replicate 128 (0 : UInt8)).map byteV) 5) = m10 := ⟨_, rfl⟩
    obtain ⟨z, hzz⟩ : ∃ z, m9.next = z := ⟨_, rfl⟩
    rw [hm10, hzz] at hz ⊢
    have g10 := hz.mem (List.mem_cons_of_mem _ (List.mem_append_right _ (List.mem_append_right _ (List.mem_cons_self ..))))
    simp -implicitDefEqProofs (disch := first | assumption | omega | fail) [wkB, retV, stabOk, dC, ev, fillD, pickCells, putAt, bnd, slD, List.getElem?_cons_zero, List.getElem?_cons_succ, Mem.cell, Mem.row, cells_own, cells_ro, g10]
    refine SK_bslS hz (cs := [.int .u8 0, .slice (some ⟨z, 0, none⟩) 128 1]) (by simp [fillD, pickCells, wkB, retV, stabOk, dC, ev, fillD, pickCells, putAt, bnd, slD, List.getElem?_cons_zero, List.getElem?_cons_succ, Mem.cell, Mem.row, cells_own, cells_ro]) rfl fun b11 m11 hh11 _ _ => ?_
    have g11 := hh11.mem (List.mem_cons_of_mem _ (List.mem_cons_of_mem _ (List.mem_append_right _ (List.mem_append_right _ (List.mem_cons_self ..)))))
    simp -implicitDefEqProofs (disch := first | assumption | omega | fail) [wkB, retV, stabOk, dC, ev, fillD, pickCells, putAt, bnd, slD, List.getElem?_cons_zero, List.getElem?_cons_succ, Mem.cell, Mem.row, cells_own, cells_ro, g11]
    refine c_sOf (xs := [((0 : UInt8), .slice (some ⟨z, 0, none⟩) 128 1, zerosL)]) hh11 (hh11.rd 0 (k := 1) (sz := 2) rfl rfl (fun e => by cases e) (fun j hj => by cases hj; exact hh11.lt 0 rfl)) ⟨fun x hx => ?_⟩ (by simp) fun is3 H3 m12 hh12 o12 hR3 => ?_
    · obtain rfl := List.mem_singleton.1 hx
      have hrd : RdV (fun j => j < m11.next) m11 1 (slV (some z) zerosL.length 1) (zerosL.map byteV) zerosL.length := hh11.rd 1 (k := zerosL.length) (sz := 1) rfl (by simp [zerosL]) (fun e => by cases e) (fun j hj => by cases hj; exact hh11.lt 1 rfl)
      rw [zeros_len] at hrd
      exact ⟨by rw [zeros_len]; exact hrd, .inl zeros_len⟩
    have g12 := hh12.mem (List.mem_append_right _ (List.mem_cons_of_mem _ (List.mem_cons_of_mem _ (List.mem_append_right _ (List.mem_append_right _ (List.mem_cons_self ..))))))
    simp -implicitDefEqProofs (disch := first | assumption | omega | fail) [wkB, retV, stabOk, dC, ev, fillD, pickCells, putAt, bnd, slD, List.getElem?_cons_zero, List.getElem?_cons_succ, Mem.cell, Mem.row, cells_own, cells_ro, g12]
    refine SK_bslS hh12 (cs := [.pointer (some ⟨is2, 0, none⟩), .pointer (some ⟨is3, 0, none⟩)]) (by simp [fillD, pickCells, wkB, retV, stabOk, dC, ev, fillD, pickCells, putAt, bnd, slD, List.getElem?_cons_zero, List.getElem?_cons_succ, Mem.cell, Mem.row, cells_own, cells_ro]) rfl fun pr m13 hh13 _ _ => ?_
    have g13 := hh13.mem (List.mem_cons_of_mem _ (List.mem_append_right _ (List.mem_cons_of_mem _ (List.mem_cons_of_mem _ (List.mem_append_right _ (List.mem_append_right _ (List.mem_cons_self ..)))))))
    simp -implicitDefEqProofs (disch := first | assumption | omega | fail) [wkB, retV, stabOk, dC, ev, fillD, pickCells, putAt, bnd, slD, List.getElem?_cons_zero, List.getElem?_cons_succ, Mem.cell, Mem.row, cells_own, cells_ro]
    refine SK_bxS hh13 (cs := sbC (sb0 tr wt hd N) is1 (.slice (some ⟨pr, 0, none⟩) 2 1)) (by simp [wkB, retV, stabOk, dC, ev, fillD, pickCells, putAt, bnd, slD, List.getElem?_cons_zero, List.getElem?_cons_succ, Mem.cell, Mem.row, cells_own, cells_ro, sbC, sb0, errV]) fun ib m14 hh14 _ _ => ?_
    simp -implicitDefEqProofs (disch := first | assumption | omega | fail) [wkB, retV, stabOk, dC, ev, fillD, pickCells, putAt, bnd, slD, List.getElem?_cons_zero, List.getElem?_cons_succ, Mem.cell, Mem.row, cells_own, cells_ro]
    have hfin : Sep m (fun i => i < m.next) m14 (sbH ib is1 pr (.slice (some ⟨pr, 0, none⟩) 2 1) [.pointer (some ⟨is2, 0, none⟩), .pointer (some ⟨is3, 0, none⟩)] H1 [H2, H3] (sb0 tr wt hd N)) := by
      have hp : (H3 ++ (H2 ++ H1)).Perm (H1 ++ [H2, H3].flatten) := by
        have e : H1 ++ [H2, H3].flatten = (H1 ++ H2) ++ H3 := by simp
        rw [e]
        exact List.perm_append_comm.trans (List.perm_append_comm.append_right H3)
      have hs := hh14.sub (((((((List.sublist_append_left H1 [(some B, Ent.own [.int .i64 tr, .int .i64 wt] 23)]).append_left H2).trans ((List.sublist_cons_self _ _).trans (List.sublist_cons_self _ _)))).append_left H3).cons_cons _).cons_cons _)
      exact hs.perm ((hp.cons _).cons _)
    exact h1 hm ib _ m14 (h.addO hfin) hfin.toOld ⟨is1, pr, 0, _, _, H1, [H2, H3], [is2, is3], rfl, rfl, ⟨rfl, rfl⟩, fun _ => rfl, rfl, by simp, hR1, hR2, hR3, trivial⟩
end Go.Proofs.YthmhappejchilaaGreatDoor.Ab

set_option linter.unusedVariables false
set_option linter.unusedSimpArgs false
namespace Go.Proofs.YthmhappejchilaaGreatDoor.Ab
open Go Go.RowKit
set_option maxHeartbeats 4000000
set_option maxRecDepth 100000
def SbQ (V : Nat → Prop) (m : Mem) (ib : Nat) (r : Sb × List UInt8) (Q : Value → Mem → Prop) : Prop :=
  ∀ oo H' M, Sep m V M (byH oo r.2 :: H') → SbR H' ib r.1 → (oo = none → r.2.length = 0) → Q (slV oo r.2.length 1) M
/-- What is left of a row behind its first one. -/
theorem sl_one {i o n : Nat} : ∃ v, slW 1 (.slice (some ⟨i, o, none⟩) (n + 1) 1) (some (.int .i64 1)) none = some v ∧ slen v = some (.int .i64 (n : Nat)) ∧ (cellsV v = [v] ∧ oneC v = true) ∧ (n ≠ 0 → v = .slice (some ⟨i, o + 1, none⟩) n 1) := by
  cases n with
  | zero => exact ⟨_, by simp [slW, dR, ev, bnd, slD]; rfl, rfl, ⟨rfl, rfl⟩, fun h => absurd rfl h⟩
  | succ n =>
    refine ⟨.slice (some ⟨i, o + 1, none⟩) (n + 1) 1, ?_, rfl, ⟨rfl, rfl⟩, fun _ => rfl⟩
    have h1 : (1 : Int) ≤ (n : Int) + 1 + 1 := by omega
    have h2 : (1 : Int).toNat = 1 := rfl
    simp [slW, dR, ev, bnd, slD, h1]
theorem c_sbAfter {w0 : World} {V : Nat → Prop} {m0 m : Mem} {ib : Nat} {s : Sb} {oo : Option Nat} {o : List UInt8} {H : HL} {Q : Value → Mem → Prop} (h : Sep m0 V m (byH oo o :: H)) (hR : SbR H ib s) (hoo : oo = none → o.length = 0)
    (hq : SbQ V m0 ib (sbAft s, o) Q) : AbC Tryz.prog w0 46 [.pointer (some ⟨ib, 0, none⟩), slV oo o.length 1] m Q := by
  refine AbC_fn ok46 (by simp) ?_
  have hR0 := hR
  obtain ⟨ip, ir, of, vr, cs, HP, HR, ps, rfl, hvl, hvc, hvn, hcs, hof, hP, hRs⟩ := hR
  have g0 := h.get 1 rfl
  have gr := h.get 2 rfl
  simp only [sbC] at g0
  simp -implicitDefEqProofs (disch := first | assumption | omega | fail) [rc46, ro46, wkB, retV, stabOk, dC, ev, fillD, pickCells, putAt, bnd, slD, List.getElem?_cons_zero, List.getElem?_cons_succ, Mem.cell, Mem.row, cells_own, cells_ro, g0]
  refine c_sDone h hP (fun p hp => List.mem_cons_of_mem _ (List.mem_cons_of_mem _ (List.mem_cons_of_mem _ (List.mem_append_left _ hp)))) ?_
  unfold sbAft at hq
  by_cases h3 : s.part.phase = 3
  · rw [if_neg (by simp [h3])] at hq
    have e3 : decide (s.part.phase = 3) = true := by simp [h3]
    rw [e3]
    have keep : SbR (sbH ib ip ir vr cs HP HR { s with over := true, err := s.part.err }) ib { s with over := true, err := s.part.err } := ⟨ip, ir, of, vr, cs, HP, HR, ps, rfl, hvl, hvc, hvn, hcs, hof, hP, hRs⟩
    cases hes : s.part.err with
    | succ k =>
      have hq : SbQ V m0 ib ({ s with over := true, err := s.part.err }, o) Q := by
        cases hrr : s.rest with
        | nil => simp only [hrr] at hq ⊢; exact hq
        | cons x r => simp only [hrr] at hq ⊢; rw [if_pos (by rw [hes]; simp)] at hq; exact hq
      simp -implicitDefEqProofs (disch := first | assumption | omega | fail) [wkB, retV, stabOk, dC, ev, fillD, pickCells, putAt, bnd, slD, List.getElem?_cons_zero, List.getElem?_cons_succ, Mem.cell, Mem.row, cells_own, cells_ro, errV, g0, hvl]
      refine SK_stS h 1 rfl (o := 5) (vs := [.bool true]) (cs' := sbC { s with over := true } ip vr) (by simp [wkB, retV, stabOk, dC, ev, fillD, pickCells, putAt, bnd, slD, List.getElem?_cons_zero, List.getElem?_cons_succ, Mem.cell, Mem.row, cells_own, cells_ro]) (by simp [wkB, retV, stabOk, dC, ev, fillD, pickCells, putAt, bnd, slD, List.getElem?_cons_zero, List.getElem?_cons_succ, Mem.cell, Mem.row, cells_own, cells_ro]) (by simp [sbC]) rfl rfl (by simp [sbC, putAt]) fun m1 h1 _ => ?_
      simp -implicitDefEqProofs (disch := first | assumption | omega | fail) [wkB, retV, stabOk, dC, ev, fillD, pickCells, putAt, bnd, slD, List.getElem?_cons_zero, List.getElem?_cons_succ, Mem.cell, Mem.row, cells_own, cells_ro]
      refine SK_stS h1 1 rfl (o := 4) (vs := [errV (k + 1)]) (cs' := sbC { s with over := true, err := (k + 1) } ip vr) (by simp [wkB, retV, stabOk, dC, ev, fillD, pickCells, putAt, bnd, slD, List.getElem?_cons_zero, List.getElem?_cons_succ, Mem.cell, Mem.row, cells_own, cells_ro]) (by simp [wkB, retV, stabOk, dC, ev, fillD, pickCells, putAt, bnd, slD, List.getElem?_cons_zero, List.getElem?_cons_succ, Mem.cell, Mem.row, cells_own, cells_ro, errV]) (by simp [sbC]) rfl (by simp [oneC_errV]) (by simp [sbC, putAt]) fun m2 h2 _ => ?_
      simp -implicitDefEqProofs (disch := first | assumption | omega | fail) [wkB, retV, stabOk, dC, ev, fillD, pickCells, putAt, bnd, slD, List.getElem?_cons_zero, List.getElem?_cons_succ, Mem.cell, Mem.row, cells_own, cells_ro, rc46_0]
      rw [hes] at hq keep
      exact hq oo _ m2 h2 keep hoo
    | zero =>
      cases hrr : s.rest with
      | nil =>
        have hq : SbQ V m0 ib ({ s with over := true, err := s.part.err }, o) Q := by simp only [hrr] at hq ⊢; exact hq
        have hvl : slen vr = some (.int .i64 0) := by rw [hvl, hrr]; rfl
        simp -implicitDefEqProofs (disch := first | assumption | omega | fail) [wkB, retV, stabOk, dC, ev, fillD, pickCells, putAt, bnd, slD, List.getElem?_cons_zero, List.getElem?_cons_succ, Mem.cell, Mem.row, cells_own, cells_ro, errV, g0, hvl]
        refine SK_stS h 1 rfl (o := 5) (vs := [.bool true]) (cs' := sbC { s with over := true } ip vr) (by simp [wkB, retV, stabOk, dC, ev, fillD, pickCells, putAt, bnd, slD, List.getElem?_cons_zero, List.getElem?_cons_succ, Mem.cell, Mem.row, cells_own, cells_ro]) (by simp [wkB, retV, stabOk, dC, ev, fillD, pickCells, putAt, bnd, slD, List.getElem?_cons_zero, List.getElem?_cons_succ, Mem.cell, Mem.row, cells_own, cells_ro]) (by simp [sbC]) rfl rfl (by simp [sbC, putAt]) fun m1 h1 _ => ?_
        simp -implicitDefEqProofs (disch := first | assumption | omega | fail) [wkB, retV, stabOk, dC, ev, fillD, pickCells, putAt, bnd, slD, List.getElem?_cons_zero, List.getElem?_cons_succ, Mem.cell, Mem.row, cells_own, cells_ro]
        refine SK_stS h1 1 rfl (o := 4) (vs := [errV 0]) (cs' := sbC { s with over := true, err := 0 } ip vr) (by simp [wkB, retV, stabOk, dC, ev, fillD, pickCells, putAt, bnd, slD, List.getElem?_cons_zero, List.getElem?_cons_succ, Mem.cell, Mem.row, cells_own, cells_ro]) (by simp [wkB, retV, stabOk, dC, ev, fillD, pickCells, putAt, bnd, slD, List.getElem?_cons_zero, List.getElem?_cons_succ, Mem.cell, Mem.row, cells_own, cells_ro, errV]) (by simp [sbC]) rfl (by simp [oneC_errV]) (by simp [sbC, putAt]) fun m2 h2 _ => ?_
        simp -implicitDefEqProofs (disch := first | assumption | omega | fail) [wkB, retV, stabOk, dC, ev, fillD, pickCells, putAt, bnd, slD, List.getElem?_cons_zero, List.getElem?_cons_succ, Mem.cell, Mem.row, cells_own, cells_ro, rc46_0]
        rw [hes] at hq keep
        exact hq oo _ m2 h2 keep hoo
      | cons x r =>
        rw [hrr] at hRs hvl hvn
        have hq : SbQ V m0 ib ({ s with part := x, rest := r }, o) Q := by
          simp only [hrr] at hq
          rw [if_neg (by rw [hes]; simp)] at hq
          exact hq
        cases ps with
        | nil => cases HR <;> exact hRs.elim
        | cons p ps =>
          cases HR with
          | nil => exact hRs.elim
          | cons Hx HR =>
            obtain ⟨hx, hRs⟩ := hRs
            have hvr : vr = .slice (some ⟨ir, of, none⟩) (r.length + 1) 1 := hvn (by simp)
            subst hvr
            have hlt : of < cs.length := by
              rcases Nat.lt_or_ge of cs.length with h | h
              · exact h
              · rw [List.drop_of_length_le h] at hcs; cases hcs
            have hco : cs[of]? = some (.pointer (some ⟨p, 0, none⟩)) := by
              have := congrArg (fun q : List Value => q[0]?) hcs
              simpa [List.getElem?_drop] using this
            have hdr : cs.drop (of + 1) = ps.map (fun p => Value.pointer (some ⟨p, 0, none⟩)) := by
              have := congrArg List.tail hcs
              simpa [List.tail_drop] using this
            have hidx : sidx 1 (.slice (some ⟨ir, of, none⟩) (r.length + 1) 1) (.int .i64 0) = some (.pointer (some ⟨ir, of, none⟩)) := by simpa using sidx_at (b := ir) (o := of) (n := r.length + 1) (c := 1) (j := 0) (sz := 1) (k := .i64) (by omega)
            obtain ⟨v2, q1, q2, q3, q4⟩ := sl_one (i := ir) (o := of) (n := r.length)
            have hne : ((r.length : Int) + 1 == 0) = false := beq_eq_false_iff_ne.2 (by omega)
            simp -implicitDefEqProofs (disch := first | assumption | omega | fail) [wkB, retV, stabOk, dC, ev, fillD, pickCells, putAt, bnd, slD, List.getElem?_cons_zero, List.getElem?_cons_succ, Mem.cell, Mem.row, cells_own, cells_ro, errV, g0, gr, hidx, hco, getL1 hco, q1, hne]
            refine SK_stS h 1 rfl (o := 2) (vs := [.pointer (some ⟨p, 0, none⟩)]) (cs' := sbC s p (.slice (some ⟨ir, of, none⟩) (r.length + 1) 1)) (by simp [wkB, retV, stabOk, dC, ev, fillD, pickCells, putAt, bnd, slD, List.getElem?_cons_zero, List.getElem?_cons_succ, Mem.cell, Mem.row, cells_own, cells_ro]) (by simp [wkB, retV, stabOk, dC, ev, fillD, pickCells, putAt, bnd, slD, List.getElem?_cons_zero, List.getElem?_cons_succ, Mem.cell, Mem.row, cells_own, cells_ro]) (by simp [sbC]) rfl rfl (by simp [sbC, putAt]) fun m1 h1 _ => ?_
            simp -implicitDefEqProofs (disch := first | assumption | omega | fail) [wkB, retV, stabOk, dC, ev, fillD, pickCells, putAt, bnd, slD, List.getElem?_cons_zero, List.getElem?_cons_succ, Mem.cell, Mem.row, cells_own, cells_ro]
            refine SK_stS h1 1 rfl (o := 3) (vs := [v2]) (cs' := sbC s p v2) (by simp [wkB, retV, stabOk, dC, ev, fillD, pickCells, putAt, bnd, slD, List.getElem?_cons_zero, List.getElem?_cons_succ, Mem.cell, Mem.row, cells_own, cells_ro]) (by simp [wkB, retV, stabOk, dC, ev, fillD, pickCells, putAt, bnd, slD, List.getElem?_cons_zero, List.getElem?_cons_succ, Mem.cell, Mem.row, cells_own, cells_ro, q3.1]) (by simp [sbC]) rfl (by simp [q3.2]) (by simp [sbC, putAt]) fun m2 h2 _ => ?_
            simp -implicitDefEqProofs (disch := first | assumption | omega | fail) [wkB, retV, stabOk, dC, ev, fillD, pickCells, putAt, bnd, slD, List.getElem?_cons_zero, List.getElem?_cons_succ, Mem.cell, Mem.row, cells_own, cells_ro, rc46_0]
            exact hq oo (sbH ib p ir v2 cs Hx HR { s with part := x, rest := r }) m2 (h2.sub ((((List.sublist_append_right HP (Hx ++ HR.flatten)).cons_cons _).cons_cons _).cons_cons _)) ⟨p, ir, of + 1, v2, cs, Hx, HR, ps, rfl, q2, q3, fun hr => q4 (fun e => hr (List.length_eq_zero_iff.1 e)), hdr, hlt, hx, hRs⟩ hoo
  · rw [if_pos (by simpa using h3)] at hq
    have e3 : decide (s.part.phase = 3) = false := by simp [h3]
    rw [e3]
    simp -implicitDefEqProofs (disch := first | assumption | omega | fail) [wkB, retV, stabOk, dC, ev, fillD, pickCells, putAt, bnd, slD, List.getElem?_cons_zero, List.getElem?_cons_succ, Mem.cell, Mem.row, cells_own, cells_ro, rc46_0]
    exact hq oo _ m h hR0 hoo
end Go.Proofs.YthmhappejchilaaGreatDoor.Ab

set_option linter.unusedVariables false
set_option linter.unusedSimpArgs false
namespace Go.Proofs.YthmhappejchilaaGreatDoor.Ab
open Go Go.RowKit
set_option maxHeartbeats 4000000
set_option maxRecDepth 100000
theorem c_sbDone {w0 : World} {V : Nat → Prop} {m0 m : Mem} {l H : HL} {ib : Nat} {s : Sb} {Q : Value → Mem → Prop} (h : Sep m0 V m l) (hR : SbR H ib s) (hs : ∀ p ∈ H, p ∈ l)
    (hq : Q (.tuple ⟨[.bool s.over, errV s.err]⟩) m) : AbC Tryz.prog w0 15 [.pointer (some ⟨ib, 0, none⟩)] m Q := by
  refine AbC_fn ok15 (by simp) ?_
  obtain ⟨ip, ir, of, vr, cs, HP, HR, ps, rfl, hvl, hvc, hvn, hcs, hof, hP, hRs⟩ := hR
  have g0 := h.mem (hs _ (List.mem_cons_self ..))
  simp only [sbC] at g0
  simp -implicitDefEqProofs (disch := first | assumption | omega | fail) [rc15, ro15, wkB, retV, stabOk, dC, ev, fillD, pickCells, putAt, bnd, slD, List.getElem?_cons_zero, List.getElem?_cons_succ, Mem.cell, Mem.row, cells_own, cells_ro, g0]
  exact hq
theorem c_sbPut {w0 : World} {V : Nat → Prop} {m : Mem} {H : HL} {ib : Nat} {s : Sb} {c : UInt8} {Q : Value → Mem → Prop} (h : Sep m V m H) (hR : SbR H ib s) (hbl : s.part.blocks.length ≤ 4611686018427387904) (hq : SbQ V m ib (sbPut s c) Q) :
    AbC Tryz.prog w0 24 [.pointer (some ⟨ib, 0, none⟩), .int .u8 (c.toNat : Int)] m Q := by
  refine AbC_fn ok24 (by simp) ?_
  have hR0 := hR
  obtain ⟨ip, ir, of, vr, cs, HP, HR, ps, rfl, hvl, hvc, hvn, hcs, hof, hP, hRs⟩ := hR
  have g0 := h.get 0 rfl
  simp only [sbC] at g0
  unfold sbPut at hq
  cases ho : s.over with
  | true =>
    rw [if_pos ho] at hq
    rw [ho] at g0
    simp -implicitDefEqProofs (disch := first | assumption | omega | fail) [rc24, ro24, wkB, retV, stabOk, dC, ev, fillD, pickCells, putAt, bnd, slD, List.getElem?_cons_zero, List.getElem?_cons_succ, Mem.cell, Mem.row, cells_own, cells_ro, g0]
    exact hq none _ m (h.non _) hR0 (fun _ => rfl)
  | false =>
    rw [if_neg (by rw [ho]; simp)] at hq
    rw [ho] at g0
    simp -implicitDefEqProofs (disch := first | assumption | omega | fail) [rc24, ro24, wkB, retV, stabOk, dC, ev, fillD, pickCells, putAt, bnd, slD, List.getElem?_cons_zero, List.getElem?_cons_succ, Mem.cell, Mem.row, cells_own, cells_ro, g0, rc24_0]
    have e1 : (sbH ib ip ir vr cs HP HR s).Perm (HP ++ ((some ib, .own (sbC s ip vr) 82) :: (some ir, .own cs 78) :: HR.flatten)) := by
      have : (((some ib, Ent.own (sbC s ip vr) 82) :: (some ir, Ent.own cs 78) :: HP) ++ HR.flatten).Perm ((HP ++ [(some ib, Ent.own (sbC s ip vr) 82), (some ir, Ent.own cs 78)]) ++ HR.flatten) := (List.perm_append_comm (l₁ := [(some ib, Ent.own (sbC s ip vr) 82), (some ir, Ent.own cs 78)]) (l₂ := HP)).append_right _
      rw [List.append_assoc] at this
      exact this
    have h1 := h.perm e1
    refine c_sPut h1.fr hP hbl fun oo HP' M hM hP' hoo => ?_
    have h2 := h1.un hM
    generalize sPutF s.part c = q at *
    have e2 : ((byH oo q.2 :: HP') ++ ((some ib, Ent.own (sbC s ip vr) 82) :: (some ir, .own cs 78) :: HR.flatten)).Perm (byH oo q.2 :: sbH ib ip ir vr cs HP' HR { s with part := q.1 }) := by
      refine List.Perm.cons _ ?_
      have : ((HP' ++ [(some ib, Ent.own (sbC s ip vr) 82), (some ir, Ent.own cs 78)]) ++ HR.flatten).Perm (((some ib, Ent.own (sbC s ip vr) 82) :: (some ir, Ent.own cs 78) :: HP') ++ HR.flatten) := (List.perm_append_comm (l₂ := [(some ib, Ent.own (sbC s ip vr) 82), (some ir, Ent.own cs 78)]) (l₁ := HP')).append_right _
      rw [List.append_assoc] at this
      exact this
    have h3 := h2.perm e2
    simp -implicitDefEqProofs (disch := first | assumption | omega | fail) [wkB, retV, stabOk, dC, ev, fillD, pickCells, putAt, bnd, slD, List.getElem?_cons_zero, List.getElem?_cons_succ, Mem.cell, Mem.row, cells_own, cells_ro]
    refine c_sbAfter h3 ⟨ip, ir, of, vr, cs, HP', HR, ps, rfl, hvl, hvc, hvn, hcs, hof, hP', hRs⟩ hoo fun oo4 H4 M4 h4 hR4 hoo4 => ?_
    simp -implicitDefEqProofs (disch := first | assumption | omega | fail) [wkB, retV, stabOk, dC, ev, fillD, pickCells, putAt, bnd, slD, List.getElem?_cons_zero, List.getElem?_cons_succ, Mem.cell, Mem.row, cells_own, cells_ro]
    exact hq oo4 H4 M4 h4 hR4 hoo4
theorem c_sbTick {w0 : World} {V : Nat → Prop} {m : Mem} {H : HL} {ib : Nat} {s : Sb} {Q : Value → Mem → Prop} (h : Sep m V m H) (hR : SbR H ib s) (hq : SbQ V m ib (sbTick s) Q) :
    AbC Tryz.prog w0 23 [.pointer (some ⟨ib, 0, none⟩)] m Q := by
  refine AbC_fn ok23 (by simp) ?_
  have hR0 := hR
  obtain ⟨ip, ir, of, vr, cs, HP, HR, ps, rfl, hvl, hvc, hvn, hcs, hof, hP, hRs⟩ := hR
  have g0 := h.get 0 rfl
  simp only [sbC] at g0
  unfold sbTick at hq
  cases ho : s.over with
  | true =>
    rw [if_pos ho] at hq
    rw [ho] at g0
    simp -implicitDefEqProofs (disch := first | assumption | omega | fail) [rc23, ro23, wkB, retV, stabOk, dC, ev, fillD, pickCells, putAt, bnd, slD, List.getElem?_cons_zero, List.getElem?_cons_succ, Mem.cell, Mem.row, cells_own, cells_ro, g0]
    exact hq none _ m (h.non _) hR0 (fun _ => rfl)
  | false =>
    rw [if_neg (by rw [ho]; simp)] at hq
    rw [ho] at g0
    simp -implicitDefEqProofs (disch := first | assumption | omega | fail) [rc23, ro23, wkB, retV, stabOk, dC, ev, fillD, pickCells, putAt, bnd, slD, List.getElem?_cons_zero, List.getElem?_cons_succ, Mem.cell, Mem.row, cells_own, cells_ro, g0, rc23_0]
    have e1 : (sbH ib ip ir vr cs HP HR s).Perm (HP ++ ((some ib, .own (sbC s ip vr) 82) :: (some ir, .own cs 78) :: HR.flatten)) := by
      have : (((some ib, Ent.own (sbC s ip vr) 82) :: (some ir, Ent.own cs 78) :: HP) ++ HR.flatten).Perm ((HP ++ [(some ib, Ent.own (sbC s ip vr) 82), (some ir, Ent.own cs 78)]) ++ HR.flatten) := (List.perm_append_comm (l₁ := [(some ib, Ent.own (sbC s ip vr) 82), (some ir, Ent.own cs 78)]) (l₂ := HP)).append_right _
      rw [List.append_assoc] at this
      exact this
    have h1 := h.perm e1
    refine c_sTick h1.fr hP fun oo HP' M hM hP' hoo => ?_
    have h2 := h1.un hM
    generalize sTickF s.part = q at *
    have e2 : ((byH oo q.2 :: HP') ++ ((some ib, Ent.own (sbC s ip vr) 82) :: (some ir, .own cs 78) :: HR.flatten)).Perm (byH oo q.2 :: sbH ib ip ir vr cs HP' HR { s with part := q.1 }) := by
      refine List.Perm.cons _ ?_
      have : ((HP' ++ [(some ib, Ent.own (sbC s ip vr) 82), (some ir, Ent.own cs 78)]) ++ HR.flatten).Perm (((some ib, Ent.own (sbC s ip vr) 82) :: (some ir, Ent.own cs 78) :: HP') ++ HR.flatten) := (List.perm_append_comm (l₂ := [(some ib, Ent.own (sbC s ip vr) 82), (some ir, Ent.own cs 78)]) (l₁ := HP')).append_right _
      rw [List.append_assoc] at this
      exact this
    have h3 := h2.perm e2
    simp -implicitDefEqProofs (disch := first | assumption | omega | fail) [wkB, retV, stabOk, dC, ev, fillD, pickCells, putAt, bnd, slD, List.getElem?_cons_zero, List.getElem?_cons_succ, Mem.cell, Mem.row, cells_own, cells_ro]
    refine c_sbAfter h3 ⟨ip, ir, of, vr, cs, HP', HR, ps, rfl, hvl, hvc, hvn, hcs, hof, hP', hRs⟩ hoo fun oo4 H4 M4 h4 hR4 hoo4 => ?_
    simp -implicitDefEqProofs (disch := first | assumption | omega | fail) [wkB, retV, stabOk, dC, ev, fillD, pickCells, putAt, bnd, slD, List.getElem?_cons_zero, List.getElem?_cons_succ, Mem.cell, Mem.row, cells_own, cells_ro]
    exact hq oo4 H4 M4 h4 hR4 hoo4
end Go.Proofs.YthmhappejchilaaGreatDoor.Ab

set_option linter.unusedVariables false
set_option linter.unusedSimpArgs false
namespace Go.Proofs.YthmhappejchilaaGreatDoor.Ab
open Go Go.RowKit
set_option maxHeartbeats 4000000
set_option maxRecDepth 100000
theorem u8any (z : Int) : ∃ c : UInt8, IntKind.u8.wrap z = (c.toNat : Int) := by
  have h1 : IntKind.u8.wrap z = z % 256 := by
    simp only [IntKind.wrap, IntKind.bits, IntKind.signed]; simp
  refine ⟨UInt8.ofNat (z % 256).toNat, ?_⟩
  rw [h1]
  simp
  omega
end Go.Proofs.YthmhappejchilaaGreatDoor.Ab

set_option linter.unusedVariables false
set_option linter.unusedSimpArgs false
namespace Go.Proofs.YthmhappejchilaaGreatDoor.Ab
open Go Go.RowKit
set_option maxHeartbeats 4000000
set_option maxRecDepth 100000
theorem c_bBytes {w0 : World} {X : Nat → Prop} {m : Mem} {v : Value} {b : List UInt8} {z : Nat} {Q : Value → Mem → Prop} (hp : Part L0 m) (hr : RdV X m 1 v (b.map byteV) b.length) (hb : b.length ≤ 9223372036854775807) (hz : z < 65536)
    (hq : ∀ (d : List UInt8) x M, Sep m (fun i => i < m.next) M [(some x, .own (d.map byteV) 5)] → d.length < 2500 → Q (.slice (some ⟨x, 0, none⟩) d.length 1) M) :
    AbC Tryz.prog w0 11 [v, .int .u16 (z : Int)] m Q := by
  refine AbC_fn ok11 (by simp) ?_
  have wz : IntKind.i64.wrap (z : Int) = (z : Int) := w64 (by omega)
  have r0 : dBin .rem (.int .i64 (z : Int)) (.int .i64 2500) = some (.int .i64 ((z % 2500 : Nat) : Int)) := by
    have : dBin .rem (.int .i64 (z : Int)) (.int .i64 ((2500 : Nat) : Int)) = some (.int .i64 ((z % 2500 : Nat) : Int)) := by
      rw [dBin_rem (by omega), Int.tmod_eq_emod_of_nonneg (by omega)]; rfl
    exact this
  obtain ⟨n, hn⟩ : ∃ n : Nat, n = z % 2500 := ⟨_, rfl⟩
  have hn2 : n < 2500 := by rw [hn]; exact Nat.mod_lt _ (by omega)
  rw [← hn] at r0
  have hrr := hr.o
  simp -implicitDefEqProofs (disch := first | assumption | omega | fail) [rc11, ro11, wkB, retV, stabOk, dC, ev, fillD, pickCells, putAt, bnd, slD, List.getElem?_cons_zero, List.getElem?_cons_succ, Mem.cell, Mem.row, cells_own, cells_ro, wz, r0]
  refine SK_mkS (Sep.ofOld hp) (n := n) (by simp [wkB, retV, stabOk, dC, ev, fillD, pickCells, putAt, bnd, slD, List.getElem?_cons_zero, List.getElem?_cons_succ, Mem.cell, Mem.row, cells_own, cells_ro]) (by simp [wkB, retV, stabOk, dC, ev, fillD, pickCells, putAt, bnd, slD, List.getElem?_cons_zero, List.getElem?_cons_succ, Mem.cell, Mem.row, cells_own, cells_ro]) (by omega) (by unfold maxLen; omega) fun x m1 h1 _ _ => ?_
  have hsx : slen (.slice (some ⟨x, 0, none⟩) n 1) = some (.int .i64 (n : Int)) := rfl
  simp -implicitDefEqProofs (disch := first | assumption | omega | fail) [wkB, retV, stabOk, dC, ev, fillD, pickCells, putAt, bnd, slD, List.getElem?_cons_zero, List.getElem?_cons_succ, Mem.cell, Mem.row, cells_own, cells_ro, hsx]
  refine LoopW_of (fun k ts m' => ∃ j, ∃ l : List UInt8, j + k = n ∧ l.length = n ∧ Sep m (fun i => i < m.next) m' [(some x, .own (l.map byteV) 5)] ∧ ts 0 = v ∧ ts 5 = .slice (some ⟨x, 0, none⟩) n 1 ∧ ts 12 = .int .i64 (n : Int) ∧ ts 13 = .int .i64 (j : Nat)) n ?_ ?_
  · exact ⟨0, List.replicate n 0, by omega, by simp, by rw [List.map_replicate]; exact h1, by simp [frA_at], by simp, by simp, by simp⟩
  · rintro k ts m' K ⟨j, l, hj, hl, h2, t0, t5, t12, t13⟩ hK
    have hsl := hrr.sl.slen
    by_cases hjl : j < n
    · have hj8 : (j : Int) < (n : Int) := by omega
      have w1 : IntKind.i64.wrap ((j : Int) + 1) = (j : Int) + 1 := w64 (by omega)
      by_cases hb0 : 0 < b.length
      · have hb8 : (0 : Int) < (b.length : Int) := by omega
        have r1 : dBin .rem (.int .i64 (j : Int)) (.int .i64 (b.length : Int)) = some (.int .i64 ((j % b.length : Nat) : Int)) := by
          rw [dBin_rem (by omega), Int.tmod_eq_emod_of_nonneg (by omega)]; rfl
        have q1 : dBin .quo (.int .i64 (j : Int)) (.int .i64 97) = some (.int .i64 ((j / 97 : Nat) : Int)) := by
          have : dBin .quo (.int .i64 (j : Int)) (.int .i64 ((97 : Nat) : Int)) = some (.int .i64 ((j / 97 : Nat) : Int)) := by
            rw [dBin_quo (by omega), Int.tdiv_eq_ediv_of_nonneg (by omega)]
            rw [show (j : Int) / ((97 : Nat) : Int) = ((j / 97 : Nat) : Int) from rfl]
            rw [w64 (by omega)]
          exact this
        have hlt : j % b.length < b.length := Nat.mod_lt _ hb0
        generalize j % b.length = p at *
        generalize j / 97 = q at *
        obtain ⟨i, o, L, e1, e2, e3, e4, e5, e6⟩ := (hrr.sep h2).ex hb0
        have hc : L[o + p]? = some (byteV (b.getD p 0)) := (e4 p hlt).trans (byte_at hlt)
        simp only [byteV] at hc
        have hidx : sidx 1 v (.int .i64 (p : Int)) = some (.pointer (some ⟨i, o + p, none⟩)) := by rw [e1]; simpa using sidx_at (b := i) (o := o) (n := b.length) (c := 1) (j := p) (sz := 1) (k := .i64) hlt
        have hidj : sidx 1 (.slice (some ⟨x, 0, none⟩) n 1) (.int .i64 (j : Int)) = some (.pointer (some ⟨x, j, none⟩)) := by simpa using sidx_at (b := x) (o := 0) (n := n) (c := 1) (j := j) (sz := 1) (k := .i64) hjl
        generalize b.getD p 0 = c at *
        obtain ⟨c2, hc2⟩ := u8any ((q : Nat) : Int)
        obtain ⟨c3, hc3⟩ := u8any ((c.toNat : Int) + (c2.toNat : Int))
        simp -implicitDefEqProofs (disch := first | assumption | omega | fail) [rc11_1, rc11_0, wkB, retV, stabOk, dC, ev, fillD, pickCells, putAt, bnd, slD, List.getElem?_cons_zero, List.getElem?_cons_succ, Mem.cell, Mem.row, cells_own, cells_ro, t0, t5, t12, t13, hj8, hsl, hb0, hb8, r1, q1, hidx, hidj, e2, hc, getL1 hc, hc2, hc3]
        refine SK_stS h2 0 rfl (o := j) (vs := [byteV c3]) (cs' := (l.set j c3).map byteV) (by simp [wkB, retV, stabOk, dC, ev, fillD, pickCells, putAt, bnd, slD, List.getElem?_cons_zero, List.getElem?_cons_succ, Mem.cell, Mem.row, cells_own, cells_ro]) (by simp [wkB, retV, stabOk, dC, ev, fillD, pickCells, putAt, bnd, slD, List.getElem?_cons_zero, List.getElem?_cons_succ, Mem.cell, Mem.row, cells_own, cells_ro, byteV, hc3]) (by simp; omega) rfl rfl (by
          rw [List.map_set, List.set_eq_take_append_cons_drop, if_pos (by simp; omega)]
          simp [putAt]) fun m3 h3 _ => ?_
        simp -implicitDefEqProofs (disch := first | assumption | omega | fail) [wkB, retV, stabOk, dC, ev, fillD, pickCells, putAt, bnd, slD, List.getElem?_cons_zero, List.getElem?_cons_succ, Mem.cell, Mem.row, cells_own, cells_ro, t13, w1]
        exact hK (k - 1) _ _ (by omega) ⟨j + 1, l.set j c3, by omega, by simpa using hl, h3, by simp [t0], by simp [t5], by simp [t12], by simp⟩
      · have hb8 : ¬ (0 : Int) < (b.length : Int) := by omega
        simp -implicitDefEqProofs (disch := first | assumption | omega | fail) [rc11_1, rc11_0, wkB, retV, stabOk, dC, ev, fillD, pickCells, putAt, bnd, slD, List.getElem?_cons_zero, List.getElem?_cons_succ, Mem.cell, Mem.row, cells_own, cells_ro, t0, t5, t12, t13, hj8, hsl, hb0, hb8, w1]
        exact hK (k - 1) _ _ (by omega) ⟨j + 1, l, by omega, hl, h2, by simp [t0], by simp [t5], by simp [t12], by simp⟩
    · have hj8 : ¬ (j : Int) < (n : Int) := by omega
      simp -implicitDefEqProofs (disch := first | assumption | omega | fail) [rc11_1, rc11_2, wkB, retV, stabOk, dC, ev, fillD, pickCells, putAt, bnd, slD, List.getElem?_cons_zero, List.getElem?_cons_succ, Mem.cell, Mem.row, cells_own, cells_ro, t5, t12, t13, hj8]
      have := hq l x m' h2 (by omega)
      rw [hl] at this
      exact this
theorem c_bFile {w0 : World} {V : Nat → Prop} {m0 m : Mem} {l H : HL} {ib : Nat} {s : Br} {Q : Value → Mem → Prop} (h : Sep m0 V m l) (hR : BrR H ib s) (hs : ∀ p ∈ H, p ∈ l)
    (hq : ∀ M, Sep m0 V M l → Q s.file.v M) : AbC Tryz.prog w0 17 [.pointer (some ⟨ib, 0, none⟩)] m Q := by
  refine AbC_fn ok17 (by simp) ?_
  obtain ⟨⟨ip, HP, od, dl, rfl, hP, hdt, hod⟩, hw⟩ := hR
  have hi : (some ib, Ent.own (brC s ip (slV od s.data.length 1)) 86) ∈ l := hs _ (List.mem_cons_self ..)
  simp -implicitDefEqProofs (disch := first | assumption | omega | fail) [rc17, ro17, wkB, retV, stabOk, dC, ev, fillD, pickCells, putAt, bnd, slD, List.getElem?_cons_zero, List.getElem?_cons_succ, Mem.cell, Mem.row, cells_own, cells_ro]
  refine SK_alS h fun bx m1 h1 _ _ => ?_
  have g1 := h1.mem (List.mem_cons_of_mem _ hi)
  simp only [brC] at g1
  simp -implicitDefEqProofs (disch := first | assumption | omega | fail) [wkB, retV, stabOk, dC, ev, fillD, pickCells, putAt, bnd, slD, List.getElem?_cons_zero, List.getElem?_cons_succ, Mem.cell, Mem.row, cells_own, cells_ro, g1]
  refine SK_stS h1 0 rfl (o := 0) (vs := [.string s.file.nm, .int .i64 s.file.size, .int .i64 s.file.time, .int .i64 s.file.mode]) (cs' := [.string s.file.nm, .int .i64 s.file.size, .int .i64 s.file.time, .int .i64 s.file.mode]) (by simp [wkB, retV, stabOk, dC, ev, fillD, pickCells, putAt, bnd, slD, List.getElem?_cons_zero, List.getElem?_cons_succ, Mem.cell, Mem.row, cells_own, cells_ro]) (by simp [wkB, retV, stabOk, dC, ev, fillD, pickCells, putAt, bnd, slD, List.getElem?_cons_zero, List.getElem?_cons_succ, Mem.cell, Mem.row, cells_own, cells_ro]) (by simp) rfl rfl rfl fun m2 h2 _ => ?_
  have g2 := h2.get 0 rfl
  simp -implicitDefEqProofs (disch := first | assumption | omega | fail) [wkB, retV, stabOk, dC, ev, fillD, pickCells, putAt, bnd, slD, List.getElem?_cons_zero, List.getElem?_cons_succ, Mem.cell, Mem.row, cells_own, cells_ro, g2]
  exact hq m2 h2.tl
end Go.Proofs.YthmhappejchilaaGreatDoor.Ab

set_option linter.unusedVariables false
set_option linter.unusedSimpArgs false
namespace Go.Proofs.YthmhappejchilaaGreatDoor.Ab
open Go Go.RowKit
set_option maxHeartbeats 4000000
set_option maxRecDepth 100000
theorem sEnd_bd (s : Sn) (e : Nat) : (sEndF s e).1.blocks = s.blocks ∧ (sEndF s e).2.length ≤ 1030 := by
  unfold sEndF
  refine ⟨rfl, ?_⟩
  split <;> simp
theorem sNow_bd (s : Sn) : (sNowF s).1.blocks = s.blocks ∧ (sNowF s).2.length ≤ 1030 := by
  unfold sNowF
  split
  · split
    · rename_i hf
      refine ⟨rfl, ?_⟩
      rw [blk_len]
      have ht : trN s.crc ≤ 2 := by cases s.crc <;> simp [trN]
      simp only [fitB, decide_eq_true_eq] at hf
      omega
    · exact sEnd_bd _ _
  · split
    · exact ⟨rfl, by simp⟩
    · exact ⟨rfl, by simp⟩
theorem sNext_bd (s : Sn) : (sNextF s).1.blocks = s.blocks ∧ (sNextF s).2.length ≤ 1030 := by
  unfold sNextF
  split
  · have h := sNow_bd { s with tr := 1, left := s.wait, phase := 1 }
    exact h
  · split
    · have h := sNow_bd { s with tr := 1, left := s.wait, phase := 2 }
      exact h
    · have h := sEnd_bd { s with tr := 1, left := s.wait } 0
      exact h
theorem sAgain_bd (s : Sn) : (sAgainF s).1.blocks = s.blocks ∧ (sAgainF s).2.length ≤ 1030 := by
  unfold sAgainF
  split
  · exact sEnd_bd _ _
  · exact sNow_bd { s with tr := s.tr + 1, left := s.wait }
theorem sPut_bd (s : Sn) (c : UInt8) : (sPutF s c).1.blocks = s.blocks ∧ (sPutF s c).2.length ≤ 1030 := by
  unfold sPutF
  split
  · exact ⟨rfl, by simp⟩
  · split
    · exact sEnd_bd { s with can := true } 9
    · split
      · exact sNext_bd { s with can := decide (c = 24), crc := decide (c = 67) }
      · split
        · exact ⟨rfl, by simp⟩
        · split
          · exact sNext_bd { s with can := decide (c = 24), at_ := if s.phase = 1 then s.at_ + 1 else s.at_ }
          · split
            · exact sAgain_bd { s with can := decide (c = 24) }
            · exact ⟨rfl, by simp⟩
theorem sTick_bd (s : Sn) : (sTickF s).1.blocks = s.blocks ∧ (sTickF s).2.length ≤ 1030 := by
  unfold sTickF
  split
  · exact ⟨rfl, by simp⟩
  · split
    · exact ⟨rfl, by simp⟩
    · exact sAgain_bd { s with left := s.left - 1 }
/-- All parts of what is sent are short. -/
structure SbB (N : Nat) (s : Sb) : Prop where
  p : s.part.blocks.length ≤ N
  r : ∀ x ∈ s.rest, x.blocks.length ≤ N
theorem sbAft_B {N : Nat} {s : Sb} (h : SbB N s) : SbB N (sbAft s) := by
  unfold sbAft
  split
  · exact h
  · cases hr : s.rest with
    | nil => simp only [hr]; exact ⟨h.p, by simp⟩
    | cons x r =>
      simp only [hr]
      have h2 := h.r
      rw [hr] at h2
      split
      · exact ⟨h.p, h2⟩
      · exact ⟨h2 x (List.mem_cons_self ..), fun y hy => h2 y (List.mem_cons_of_mem _ hy)⟩
theorem sbPut_B {N : Nat} {s : Sb} (h : SbB N s) (c : UInt8) : SbB N (sbPut s c).1 ∧ (sbPut s c).2.length ≤ 1030 := by
  unfold sbPut
  split
  · exact ⟨h, by simp⟩
  · have hb := sPut_bd s.part c
    exact ⟨sbAft_B ⟨by simp only; rw [hb.1]; exact h.p, h.r⟩, hb.2⟩
theorem sbTick_B {N : Nat} {s : Sb} (h : SbB N s) : SbB N (sbTick s).1 ∧ (sbTick s).2.length ≤ 1030 := by
  unfold sbTick
  split
  · exact ⟨h, by simp⟩
  · have hb := sTick_bd s.part
    exact ⟨sbAft_B ⟨by simp only; rw [hb.1]; exact h.p, h.r⟩, hb.2⟩
theorem sbPuts_B {N : Nat} : ∀ (l : List UInt8) {s : Sb} {out : List UInt8}, SbB N s → SbB N (sbPuts s out l).1 ∧ (sbPuts s out l).2.length ≤ out.length + 1030 * l.length
  | [], s, out, h => ⟨h, by simp [sbPuts]⟩
  | c :: l, s, out, h => by
    have h1 := sbPut_B h c
    have h2 := sbPuts_B l (out := out ++ (sbPut s c).2) h1.1
    refine ⟨h2.1, ?_⟩
    simp only [sbPuts]
    have h3 := h2.2
    simp only [List.length_append, List.length_cons] at h3 ⊢
    omega
theorem sbPuts_snoc (l : List UInt8) (c : UInt8) : ∀ (s : Sb) (out : List UInt8), sbPuts s out (l ++ [c]) = ((sbPut (sbPuts s out l).1 c).1, (sbPuts s out l).2 ++ (sbPut (sbPuts s out l).1 c).2) := by
  induction l with
  | nil => intro s out; simp [sbPuts]
  | cons x l ih => intro s out; simp only [List.cons_append, sbPuts]; exact ih _ _
theorem finF_out (s : Rc) : (finF s).2.length ≤ 2 := by
  unfold finF; split <;> simp
theorem takeF_out (s : Rc) (n : UInt8) (d : List UInt8) : (takeF s n d).2.length ≤ 2 := by
  unfold takeF
  split
  · exact finF_out _
  · split
    · simp
    · exact finF_out _
theorem scaF_out (s : Rc) : (scaF s).2.length ≤ 2 := by
  unfold scaF
  split
  · simp
  · split
    · simp
    · exact takeF_out _ _ _
theorem rPut1_out (s : Rc) : (rPut1 s).2.length ≤ 2 := by
  unfold rPut1
  split
  · simp
  · split
    · simp
    · split
      · simp
      · exact scaF_out _
theorem rPutF_out (s : Rc) (b : List UInt8) : (rPutF s b).2.length ≤ 2 := by
  unfold rPutF
  split
  · simp
  · exact rPut1_out _
theorem rTickF_out (s : Rc) : (rTickF s).2.length ≤ 2 := by
  unfold rTickF
  split
  · simp
  · split
    · simp
    · split
      · simp
      · split <;> simp
theorem aftF_bd (s : Br) : (aftF s).part.data.length ≤ s.part.data.length ∧ (aftF s).part.buffer.length ≤ s.part.buffer.length := by
  unfold aftF
  split
  · exact ⟨Nat.le_refl _, Nat.le_refl _⟩
  · split
    · exact ⟨Nat.le_refl _, Nat.le_refl _⟩
    · split
      · split
        · exact ⟨Nat.le_refl _, Nat.le_refl _⟩
        · exact ⟨by simp [rOf], by simp [rOf]⟩
      · split
        · split
          · exact ⟨Nat.le_refl _, Nat.le_refl _⟩
          · exact ⟨by simp [rOf], by simp [rOf]⟩
        · split
          · exact ⟨Nat.le_refl _, Nat.le_refl _⟩
          · exact ⟨Nat.le_refl _, Nat.le_refl _⟩
theorem bTick_bd (s : Br) : (bTickF s).1.part.data.length ≤ s.part.data.length ∧ (bTickF s).1.part.buffer.length ≤ s.part.buffer.length ∧ (bTickF s).2.length ≤ 2 := by
  unfold bTickF
  split
  · exact ⟨Nat.le_refl _, Nat.le_refl _, by simp⟩
  · have h1 := rTickF_data s.part
    have h2 := aftF_bd { s with part := (rTickF s.part).1 }
    refine ⟨?_, ?_, rTickF_out s.part⟩
    · refine Nat.le_trans h2.1 ?_
      simp only; rw [h1.1]; exact Nat.le_refl _
    · exact Nat.le_trans h2.2 h1.2
theorem bPut_bd (s : Br) (b : List UInt8) : (bPutF s b).1.part.data.length ≤ s.part.data.length + 1024 ∧ (bPutF s b).1.part.buffer.length ≤ s.part.buffer.length + b.length ∧ (bPutF s b).2.length ≤ 2 := by
  unfold bPutF
  split
  · exact ⟨by simp only; omega, by simp only; omega, by simp⟩
  · have h1 := rPutF_data s.part b
    have h2 := aftF_bd { s with part := (rPutF s.part b).1 }
    exact ⟨Nat.le_trans h2.1 h1.1, Nat.le_trans h2.2 h1.2, rPutF_out s.part b⟩
/-- What a talk may grow to behind so many ticks. -/
structure TkB (N k : Nat) (x : Sb × Br × List UInt8) : Prop where
  s : SbB N x.1
  d : x.2.1.part.data.length ≤ 1024 * k
  b : x.2.1.part.buffer.length ≤ 10000 * k
  u : x.2.2.length ≤ 2
theorem talk1_B {N k : Nat} {x : Sb × Br × List UInt8} (h : TkB N k x) : TkB N (k + 1) (talk1 x) := by
  have h1 := bTick_bd x.2.1
  have h2 := sbTick_B h.s
  have h3 := sbPuts_B (x.2.2 ++ (bTickF x.2.1).2) (out := (sbTick x.1).2) h2.1
  have hu := h.u
  have hd := h.d
  have hb := h.b
  have h4 : (sbPuts (sbTick x.1).1 (sbTick x.1).2 (x.2.2 ++ (bTickF x.2.1).2)).2.length ≤ 6000 := by
    refine Nat.le_trans h3.2 ?_
    rw [List.length_append]
    omega
  have h5 := bPut_bd (bTickF x.2.1).1 (sbPuts (sbTick x.1).1 (sbTick x.1).2 (x.2.2 ++ (bTickF x.2.1).2)).2
  unfold talk1
  split
  · exact ⟨h3.1, by simp only; omega, by simp only; omega, h5.2.2⟩
  · exact ⟨h3.1, by simp only; omega, by simp only; omega, by simp⟩
end Go.Proofs.YthmhappejchilaaGreatDoor.Ab

set_option linter.unusedVariables false
set_option linter.unusedSimpArgs false
namespace Go.Proofs.YthmhappejchilaaGreatDoor.Ab
open Go Go.RowKit
set_option maxHeartbeats 4000000
set_option maxRecDepth 100000
theorem c_talk {w0 : World} {V : Nat → Prop} {m : Mem} {ib ir most N : Nat} {HS HR : HL} {s : Sb} {r : Br} {Q : Value → Mem → Prop} (ht : Ten w0) (hE : ErrV w0) (h : Sep m V m (HS ++ HR)) (hS : SbR HS ib s) (hR : BrR HR ir r)
    (hN : N ≤ 4611686018427387904) (hB : TkB N 0 (s, r, [])) (hm : most ≤ 1000)
    (hq : ∀ HS' HR' M, Sep m V M (HS' ++ HR') → SbR HS' ib (talkN most (s, r, [])).1 → BrR HR' ir (talkN most (s, r, [])).2.1 → Q (.tuple ⟨[]⟩) M) :
    AbC Tryz.prog w0 14 [.pointer (some ⟨ib, 0, none⟩), .pointer (some ⟨ir, 0, none⟩), .int .i64 (most : Int)] m Q := by
  refine AbC_fn ok14 (by simp) ?_
  simp -implicitDefEqProofs (disch := first | assumption | omega | fail) [rc14, ro14, wkB, retV, stabOk, dC, ev, fillD, pickCells, putAt, bnd, slD, List.getElem?_cons_zero, List.getElem?_cons_succ, Mem.cell, Mem.row, cells_own, cells_ro]
  refine LoopW_of (fun k ts m' => ∃ (j : Nat) (ou : Option Nat) (HS HR : HL), j + k = most ∧ TkB N j (talkN j (s, r, [])) ∧ Sep m V m' (byH ou (talkN j (s, r, [])).2.2 :: (HS ++ HR)) ∧ SbR HS ib (talkN j (s, r, [])).1 ∧ BrR HR ir (talkN j (s, r, [])).2.1 ∧ (ou = none → (talkN j (s, r, [])).2.2.length = 0) ∧ ts 0 = .pointer (some ⟨ib, 0, none⟩) ∧ ts 1 = .pointer (some ⟨ir, 0, none⟩) ∧ ts 2 = .int .i64 (most : Int) ∧ ts 6 = slV ou (talkN j (s, r, [])).2.2.length 1 ∧ ts 7 = .int .i64 (j : Int)) most ?_ ?_
  · exact ⟨0, none, HS, HR, by omega, hB, h.non _, hS, hR, fun _ => rfl, by simp [frA_at], by simp [frA_at], by simp [frA_at], by simp [talkN, slV], by simp⟩
  rintro k ts m1 K ⟨j, ou, HS, HR, hj, hB, h1, hS, hR, hou, t0, t1, t2, t6, t7⟩ hK
  by_cases hjm : j < most
  case neg =>
    have hjm2 : j = most := by omega
    subst hjm2
    have hj8 : ¬ (j : Int) < (j : Int) := by omega
    simp -implicitDefEqProofs (disch := first | assumption | omega | fail) [rc14_4, wkB, retV, stabOk, dC, ev, fillD, pickCells, putAt, bnd, slD, List.getElem?_cons_zero, List.getElem?_cons_succ, Mem.cell, Mem.row, cells_own, cells_ro, t2, t7, hj8]
    exact hq HS HR m1 h1.tl hS hR
  have hj8 : (j : Int) < (most : Int) := by omega
  have hnext : talkN (j + 1) (s, r, []) = talk1 (talkN j (s, r, [])) := by rw [talkN_add]; rfl
  generalize talkN j (s, r, []) = x0 at *
  obtain ⟨s1, r1, up⟩ := x0
  simp only at h1 hS hR hou t6
  have hB' := talk1_B hB
  rw [← hnext] at hB'
  have hBd := hB.d
  have hBb := hB.b
  have hBu := hB.u
  have hBs := hB.s
  simp only at hBd hBb hBu hBs
  clear hB
  have bt := bTick_bd r1
  have st := sbTick_B hBs
  obtain ⟨r2, u1, e1⟩ : ∃ a b, bTickF r1 = (a, b) := ⟨_, _, rfl⟩
  obtain ⟨s2, d0, e2⟩ : ∃ a b, sbTick s1 = (a, b) := ⟨_, _, rfl⟩
  have e3 : talk1 (s1, r1, up) = if 0 < (sbPuts s2 d0 (up ++ u1)).2.length then ((sbPuts s2 d0 (up ++ u1)).1, (bPutF r2 (sbPuts s2 d0 (up ++ u1)).2).1, (bPutF r2 (sbPuts s2 d0 (up ++ u1)).2).2) else ((sbPuts s2 d0 (up ++ u1)).1, r2, []) := by
    unfold talk1
    simp only [e1, e2]
  rw [e1] at bt
  rw [e2] at st
  simp only at bt st
  have p1 : Sep m V m1 (HR ++ (byH ou up :: HS)) := h1.perm (List.perm_append_comm (l₁ := byH ou up :: HS) (l₂ := HR))
  simp -implicitDefEqProofs (disch := first | assumption | omega | fail) [rc14_4, rc14_3, wkB, retV, stabOk, dC, ev, fillD, pickCells, putAt, bnd, slD, List.getElem?_cons_zero, List.getElem?_cons_succ, Mem.cell, Mem.row, cells_own, cells_ro, t1, t2, t6, t7, hj8]
  refine c_bTick ht hE p1.fr hR (by omega) fun o1 HR1 m2 h2 hR1 ho1 => ?_
  have h2' := p1.un h2
  rw [e1] at h2' hR1 ho1 ⊢
  simp only at h2' hR1 ho1 ⊢
  have p2 : Sep m V m2 (byH ou up :: byH o1 u1 :: (HR1 ++ HS)) := h2'.perm List.perm_middle
  have y1 := (p2.slO 1 (k := u1.length) (sz := 1) rfl (by simp) ho1).read
  simp -implicitDefEqProofs (disch := first | assumption | omega | fail) [wkB, retV, stabOk, dC, ev, fillD, pickCells, putAt, bnd, slD, List.getElem?_cons_zero, List.getElem?_cons_succ, Mem.cell, Mem.row, cells_own, cells_ro]
  refine SK_apS p2 0 (n := up.length) (k := u1.length) (ys := u1.map byteV) rfl (by simp [wkB, retV, stabOk, dC, ev, fillD, pickCells, putAt, bnd, slD, List.getElem?_cons_zero, List.getElem?_cons_succ, Mem.cell, Mem.row, cells_own, cells_ro]) (by simp) hou (by simp [wkB, retV, stabOk, dC, ev, fillD, pickCells, putAt, bnd, slD, List.getElem?_cons_zero, List.getElem?_cons_succ, Mem.cell, Mem.row, cells_own, cells_ro]; exact y1.elems) (by simp [wkB, retV, stabOk, dC, ev, fillD, pickCells, putAt, bnd, slD, List.getElem?_cons_zero, List.getElem?_cons_succ, Mem.cell, Mem.row, cells_own, cells_ro]; exact y1.lenV) (byteV_oneC _) (by omega) (by unfold maxLen; omega) (by simp) fun o3 m3 h3 ho3 _ => ?_
  rw [← List.map_append] at h3
  have p3 : Sep m V m3 (HS ++ (byH o3 (up ++ u1) :: HR1)) := (h3.del 1).perm (List.perm_append_comm (l₁ := byH o3 (up ++ u1) :: HR1) (l₂ := HS))
  simp -implicitDefEqProofs (disch := first | assumption | omega | fail) [wkB, retV, stabOk, dC, ev, fillD, pickCells, putAt, bnd, slD, List.getElem?_cons_zero, List.getElem?_cons_succ, Mem.cell, Mem.row, cells_own, cells_ro, t0]
  refine c_sbTick p3.fr hS fun o4 HS1 m4 h4 hS1 ho4 => ?_
  have h4' := p3.un h4
  rw [e2] at h4' hS1 ho4 ⊢
  simp only at h4' hS1 ho4 ⊢
  have hUl : up.length + u1.length = (up ++ u1).length := by simp
  rw [hUl] at ho3 ⊢
  have hU4 : (up ++ u1).length ≤ 4 := by omega
  have hUs := (h4'.slm (ob := o3) (cs := (up ++ u1).map byteV) (k := (up ++ u1).length) (sz := 1) (List.mem_append_right _ (List.mem_cons_self ..)) (by simp) ho3).slen
  generalize up ++ u1 = U at *
  have hPB : ∀ i, SbB N (sbPuts s2 d0 (U.take i)).1 ∧ (sbPuts s2 d0 (U.take i)).2.length ≤ 6000 := fun i => by
    have := sbPuts_B (U.take i) (out := d0) st.1
    have h5 : (U.take i).length ≤ 4 := by rw [List.length_take]; omega
    exact ⟨this.1, by have := this.2; omega⟩
  simp -implicitDefEqProofs (disch := first | assumption | omega | fail) [wkB, retV, stabOk, dC, ev, fillD, pickCells, putAt, bnd, slD, List.getElem?_cons_zero, List.getElem?_cons_succ, Mem.cell, Mem.row, cells_own, cells_ro, hUs]
  refine LoopW_of (fun k2 ts m' => ∃ (i : Nat) (o8 : Option Nat) (HS : HL), i + k2 = U.length ∧ Sep m V m' ((byH o8 (sbPuts s2 d0 (U.take i)).2 :: HS) ++ (byH o3 U :: HR1)) ∧ SbR HS ib (sbPuts s2 d0 (U.take i)).1 ∧ (o8 = none → (sbPuts s2 d0 (U.take i)).2.length = 0) ∧ ts 0 = .pointer (some ⟨ib, 0, none⟩) ∧ ts 1 = .pointer (some ⟨ir, 0, none⟩) ∧ ts 2 = .int .i64 (most : Int) ∧ ts 7 = .int .i64 (j : Int) ∧ ts 8 = slV o8 (sbPuts s2 d0 (U.take i)).2.length 1 ∧ ts 22 = slV o3 U.length 1 ∧ ts 23 = .int .i64 (U.length : Int) ∧ ts 24 = .int .i64 (i : Int)) U.length ?_ ?_
  · exact ⟨0, o4, HS1, by omega, by simpa [sbPuts] using h4', by simpa [sbPuts] using hS1, by simpa [sbPuts] using ho4, by simp [t0], by simp [t1], by simp [t2], by simp [t7], by simp [sbPuts], by simp, by simp, by simp⟩
  rintro k2 ts5 m5 K2 ⟨i, o8, HS, hi, h5, hS5, ho8, u0, u1', u2, u7, u8, u22, u23, u24⟩ hK2
  by_cases hil : i < U.length
  · have hi8 : (i : Int) < (U.length : Int) := by omega
    have hrU := (h5.slm (ob := o3) (cs := U.map byteV) (k := U.length) (sz := 1) (List.mem_append_right _ (List.mem_cons_self ..)) (by simp) ho3).read
    obtain ⟨bi, bo, L, hvv, hL, hLl, -, hLc⟩ := hrU.at hil
    have hc := hLc 0 (by omega)
    simp only [Nat.mul_one, Nat.add_zero, List.getElem?_map, List.getElem?_eq_getElem hil, Option.map_some] at hc
    obtain ⟨c, hcU⟩ : ∃ x, U[i] = x := ⟨_, rfl⟩
    rw [hcU] at hc
    obtain ⟨hlt', hc'⟩ := List.getElem?_eq_some_iff.1 hc
    simp only [byteV] at hc hc'
    have hiw : IntKind.i64.wrap ((i : Int) + 1) = (i : Int) + 1 := w64 (by omega)
    have htk : U.take (i + 1) = U.take i ++ [c] := by rw [List.take_succ_eq_append_getElem hil, hcU]
    have hidx : sidx 1 (slV o3 U.length 1) (.int .i64 (i : Int)) = some (.pointer (some ⟨bi, bo + i, none⟩)) := by rw [hvv]; simpa using sidx_at (b := bi) (o := bo) (n := U.length) (c := 1) (j := i) (sz := 1) (k := .i64) hil
    have hPi := hPB i
    have hPi1 := hPB (i + 1)
    rw [htk, sbPuts_snoc] at hPi1
    simp only at hPi1
    obtain ⟨s5, D5, e5⟩ : ∃ a b, sbPuts s2 d0 (U.take i) = (a, b) := ⟨_, _, rfl⟩
    rw [e5] at h5 hS5 ho8 u8 hPi hPi1
    simp only at h5 hS5 ho8 u8 hPi hPi1
    have p5 : Sep m V m5 (HS ++ (byH o8 D5 :: byH o3 U :: HR1)) := h5.perm List.perm_middle.symm
    simp -implicitDefEqProofs (disch := first | assumption | omega | fail) [rc14_1, rc14_0, wkB, retV, stabOk, dC, ev, fillD, pickCells, putAt, bnd, slD, List.getElem?_cons_zero, List.getElem?_cons_succ, Mem.cell, Mem.row, cells_own, cells_ro, u0, u8, u22, u23, u24, hi8, hidx, hL, hc, hc', getL1 hc]
    refine c_sbPut p5.fr hS5 (Nat.le_trans hPi.1.p hN) fun o9 HS9 m9 h9 hS9 ho9 => ?_
    have h9' := p5.un h9
    obtain ⟨s6, d6, e6⟩ : ∃ a b, sbPut s5 c = (a, b) := ⟨_, _, rfl⟩
    have hput : sbPuts s2 d0 (U.take (i + 1)) = (s6, D5 ++ d6) := by rw [htk, sbPuts_snoc, e5]; simp only [e6]
    rw [e6] at h9' hS9 ho9 hPi1 ⊢
    simp only at h9' hS9 ho9 hPi1 ⊢
    have hdl : D5.length + d6.length ≤ 6000 := by have := hPi1.2; rw [List.length_append] at this; exact this
    have p9 : Sep m V m9 (byH o8 D5 :: byH o9 d6 :: (HS9 ++ (byH o3 U :: HR1))) := h9'.perm List.perm_middle
    have y9 := (p9.slO 1 (k := d6.length) (sz := 1) rfl (by simp) ho9).read
    simp -implicitDefEqProofs (disch := first | assumption | omega | fail) [wkB, retV, stabOk, dC, ev, fillD, pickCells, putAt, bnd, slD, List.getElem?_cons_zero, List.getElem?_cons_succ, Mem.cell, Mem.row, cells_own, cells_ro]
    refine SK_apS p9 0 (n := D5.length) (k := d6.length) (ys := d6.map byteV) rfl (by simp [wkB, retV, stabOk, dC, ev, fillD, pickCells, putAt, bnd, slD, List.getElem?_cons_zero, List.getElem?_cons_succ, Mem.cell, Mem.row, cells_own, cells_ro]) (by simp) ho8 (by simp [wkB, retV, stabOk, dC, ev, fillD, pickCells, putAt, bnd, slD, List.getElem?_cons_zero, List.getElem?_cons_succ, Mem.cell, Mem.row, cells_own, cells_ro]; exact y9.elems) (by simp [wkB, retV, stabOk, dC, ev, fillD, pickCells, putAt, bnd, slD, List.getElem?_cons_zero, List.getElem?_cons_succ, Mem.cell, Mem.row, cells_own, cells_ro]; exact y9.lenV) (byteV_oneC _) (by omega) (by unfold maxLen; omega) (by simp) fun oA mA hA hoA _ => ?_
    rw [← List.map_append] at hA
    simp -implicitDefEqProofs (disch := first | assumption | omega | fail) [wkB, retV, stabOk, dC, ev, fillD, pickCells, putAt, bnd, slD, List.getElem?_cons_zero, List.getElem?_cons_succ, Mem.cell, Mem.row, cells_own, cells_ro, u24, hiw]
    refine hK2 (k2 - 1) _ _ (by omega) ⟨i + 1, oA, HS9, by omega, ?_, ?_, ?_, by simp [u0], by simp [u1'], by simp [u2], by simp [u7], ?_, by simp [u22], by simp [u23], by simp⟩
    · rw [hput]; exact hA.del 1
    · rw [hput]; exact hS9
    · rw [hput]; simp only [List.length_append]; exact hoA
    · rw [hput]; simp
  · have hi2 : i = U.length := by omega
    subst hi2
    have hi8 : ¬ (U.length : Int) < (U.length : Int) := by omega
    have hPi := hPB U.length
    rw [List.take_length] at h5 hS5 ho8 u8 hPi
    obtain ⟨s5, D5, e5⟩ : ∃ a b, sbPuts s2 d0 U = (a, b) := ⟨_, _, rfl⟩
    rw [e5] at h5 hS5 ho8 u8 hPi e3
    simp only at h5 hS5 ho8 u8 hPi e3
    have hDs := (h5.slm (ob := o8) (cs := D5.map byteV) (k := D5.length) (sz := 1) (List.mem_append_left _ (List.mem_cons_self ..)) (by simp) ho8).slen
    have hjw : IntKind.i64.wrap ((j : Int) + 1) = (j : Int) + 1 := w64 (by omega)
    by_cases hD : 0 < D5.length
    · rw [if_pos hD] at e3
      have hD8 : (0 : Int) < (D5.length : Int) := by omega
      have p6 : Sep m V m5 (HR1 ++ (byH o8 D5 :: HS)) := (h5.perm (List.perm_append_comm (l₁ := byH o8 D5 :: HS) (l₂ := byH o3 U :: HR1))).tl
      simp -implicitDefEqProofs (disch := first | assumption | omega | fail) [rc14_1, rc14_2, wkB, retV, stabOk, dC, ev, fillD, pickCells, putAt, bnd, slD, List.getElem?_cons_zero, List.getElem?_cons_succ, Mem.cell, Mem.row, cells_own, cells_ro, u1', u7, u8, u23, u24, hi8, hDs, hD, hD8]
      refine c_bPut ht hE p6.fr hR1 (p6.rdm (ob := o8) (cs := D5.map byteV) (k := D5.length) (List.mem_append_right _ (List.mem_cons_self ..)) (by simp) ho8 (fun i hi => .inr ⟨_, List.mem_cons_self .., hi⟩)) (by omega) (by have := hPi.2; omega) fun oB HR2 m6 h6 hR2 hoB => ?_
      have h6' := ((p6.un h6).perm (List.perm_append_comm (l₁ := byH oB (bPutF r2 D5).2 :: HR2) (l₂ := byH o8 D5 :: HS))).tl.perm List.perm_middle
      simp -implicitDefEqProofs (disch := first | assumption | omega | fail) [wkB, retV, stabOk, dC, ev, fillD, pickCells, putAt, bnd, slD, List.getElem?_cons_zero, List.getElem?_cons_succ, Mem.cell, Mem.row, cells_own, cells_ro, u7, hjw]
      refine hK (k - 1) _ _ (by omega) ⟨j + 1, oB, HS, HR2, by omega, hB', ?_, ?_, ?_, ?_, by simp [u0], by simp [u1'], by simp [u2], ?_, by simp⟩
      · rw [hnext, e3]; exact h6'
      · rw [hnext, e3]; exact hS5
      · rw [hnext, e3]; exact hR2
      · rw [hnext, e3]; exact hoB
      · rw [hnext, e3]; simp
    · rw [if_neg hD] at e3
      have hD8 : ¬ (0 : Int) < (D5.length : Int) := by omega
      simp -implicitDefEqProofs (disch := first | assumption | omega | fail) [rc14_1, rc14_2, wkB, retV, stabOk, dC, ev, fillD, pickCells, putAt, bnd, slD, List.getElem?_cons_zero, List.getElem?_cons_succ, Mem.cell, Mem.row, cells_own, cells_ro, u1', u7, u8, u23, u24, hi8, hDs, hD, hD8, hjw]
      refine hK (k - 1) _ _ (by omega) ⟨j + 1, none, HS, HR1, by omega, hB', ?_, ?_, ?_, ?_, by simp [u0], by simp [u1'], by simp [u2], ?_, by simp⟩
      · rw [hnext, e3]; exact ((h5.tl.perm List.perm_middle).tl).non _
      · rw [hnext, e3]; exact hS5
      · rw [hnext, e3]; exact hR1
      · rw [hnext, e3]; exact fun _ => rfl
      · rw [hnext, e3]; simp [slV]
end Go.Proofs.YthmhappejchilaaGreatDoor.Ab

set_option linter.unusedVariables false
set_option linter.unusedSimpArgs false
namespace Go.Proofs.YthmhappejchilaaGreatDoor.Ab
open Go Go.RowKit
set_option maxHeartbeats 4000000
set_option maxRecDepth 100000
theorem numSplit_len (D : List UInt8) : (numL (splitL true D)).length ≤ D.length / 128 + 1 := by
  have h := congrArg List.length (numL_snd (splitL true D))
  rw [List.length_map] at h
  have h2 := splitF_num true D.length D
  unfold splitL at h ⊢
  omega
theorem dEq_fl (f : Fl) : dEq (.recd [(0, 0, .str), (1, 0, .int), (2, 0, .int), (3, 0, .int)]) f.v f.v = some true := by
  unfold Fl.v dEq dEqs; simp [dEqs, dEq, pickCells]
theorem c_talkAll {w0 : World} {V : Nat → Prop} {m : Mem} {ib ir n : Nat} {HS HR : HL} {tr wt : Int} {F : Fl} {D : List UInt8} {Q : Value → Mem → Prop} (ht : Ten w0) (hE : ErrV w0) (h : Sep m V m (HS ++ HR)) (hS : SbR HS ib (sb0 tr wt (padL (tellL F)) (numL (splitL true D)))) (hR : BrR HR ir (bTake tr wt))
    (hF : mayB F = true) (hFs : F.size = (D.length : Int)) (hw : 2 ≤ clampI 1 99 wt) (hn : D.length / 128 + 5 ≤ n) (hn2 : n ≤ 1000)
    (hq : ∀ HS' HR' M s r, Sep m V M (HS' ++ HR') → SbR HS' ib s → BrR HR' ir r → s.over = true → s.err = 0 → r.over = true → r.err = 0 → r.data = D → r.file = F → Q (.tuple ⟨[]⟩) M) :
    AbC Tryz.prog w0 14 [.pointer (some ⟨ib, 0, none⟩), .pointer (some ⟨ir, 0, none⟩), .int .i64 (n : Int)] m Q := by
  have hnl := numSplit_len D
  obtain ⟨g, hg, hgf, -⟩ := readF_some hF
  rw [hgf] at hg
  obtain ⟨s, r, e, e1, e2, e3, e4, e5, e6⟩ := talk_all (tr := tr) (wt := wt) (D := D) (bs := numL (splitL true D)) (n := n) hw (pad_len hF) hg (blkOk_split D) hFs (by omega)
  refine c_talk (N := 1000) ht hE h hS hR (by omega) ⟨⟨by simp [sb0, snOf], fun x hx => ?_⟩, by simp [bTake, rOf], by simp [bTake, rOf], by simp⟩ hn2 fun HS' HR' M h' hS' hR' => ?_
  · simp only [sb0, List.mem_cons, List.mem_nil_iff, or_false] at hx
    rcases hx with rfl | rfl
    · simp only [snOf]; omega
    · simp [snOf]
  · rw [e] at hS' hR'
    exact hq HS' HR' M s r h' hS' hR' e1 e2 e3 e4 e5 e6
end Go.Proofs.YthmhappejchilaaGreatDoor.Ab

set_option linter.unusedVariables false
set_option linter.unusedSimpArgs false
namespace Go.Proofs.YthmhappejchilaaGreatDoor.Ab
open Go Go.RowKit
set_option maxHeartbeats 4000000
set_option maxRecDepth 100000
theorem c_awakeB {w0 : World} {m : Mem} {Q : Value → Mem → Prop} (hp : Part L0 m) (ht : Ten w0) (hE : ErrV w0) (hq : ∀ M, Old m M → Q (.bool true) M) : AbC Tryz.prog w0 9 [] m Q := by
  refine AbC_fn ok9 (by simp) ?_
  obtain ⟨f0, hf0⟩ : ∃ f : Fl, f = ⟨⟨#[97]⟩, 0, 0, 0⟩ := ⟨_, rfl⟩
  obtain ⟨D, hD⟩ : ∃ D : List UInt8, D = [120, 121, 122] := ⟨_, rfl⟩
  have hDl : D.length = 3 := by rw [hD]; rfl
  have hfv : (Value.agg ⟨[.string ⟨#[97]⟩, .int .i64 0, .int .i64 0, .int .i64 0]⟩) = f0.v := by rw [hf0]; rfl
  have hDc : ([120, 121, 122] : List UInt8).map byteV = D.map byteV := by rw [hD]
  simp -implicitDefEqProofs (disch := first | assumption | omega | fail) [rc9, ro9, wkB, retV, stabOk, dC, ev, fillD, pickCells, putAt, bnd, slD, List.getElem?_cons_zero, List.getElem?_cons_succ, Mem.cell, Mem.row, cells_own, cells_ro]
  refine SK_alS (Sep.ofOld hp) fun x1 m1 h1 _ _ => ?_
  simp -implicitDefEqProofs (disch := first | assumption | omega | fail) [wkB, retV, stabOk, dC, ev, fillD, pickCells, putAt, bnd, slD, List.getElem?_cons_zero, List.getElem?_cons_succ, Mem.cell, Mem.row, cells_own, cells_ro]
  refine SK_stS h1 0 rfl (o := 0) (vs := [.int .i64 3, .int .i64 5]) (cs' := [.int .i64 3, .int .i64 5]) (by simp [wkB, retV, stabOk, dC, ev, fillD, pickCells, putAt, bnd, slD, List.getElem?_cons_zero, List.getElem?_cons_succ, Mem.cell, Mem.row, cells_own, cells_ro]) (by simp [wkB, retV, stabOk, dC, ev, fillD, pickCells, putAt, bnd, slD, List.getElem?_cons_zero, List.getElem?_cons_succ, Mem.cell, Mem.row, cells_own, cells_ro]) (by simp) rfl rfl rfl fun m2 h2 _ => ?_
  have g2 := h2.get 0 rfl
  simp -implicitDefEqProofs (disch := first | assumption | omega | fail) [wkB, retV, stabOk, dC, ev, fillD, pickCells, putAt, bnd, slD, List.getElem?_cons_zero, List.getElem?_cons_succ, Mem.cell, Mem.row, cells_own, cells_ro, g2]
  refine SK_bslS h2 (cs := D.map byteV) (by rw [hD]; simp [fillD, pickCells, wkB, retV, stabOk, dC, ev, fillD, pickCells, putAt, bnd, slD, List.getElem?_cons_zero, List.getElem?_cons_succ, Mem.cell, Mem.row, cells_own, cells_ro, byteV]) (by rw [hD]; rfl) fun x3 m3 h3 _ _ => ?_
  have g3 := h3.get 0 rfl
  simp -implicitDefEqProofs (disch := first | assumption | omega | fail) [wkB, retV, stabOk, dC, ev, fillD, pickCells, putAt, bnd, slD, List.getElem?_cons_zero, List.getElem?_cons_succ, Mem.cell, Mem.row, cells_own, cells_ro]
  refine SK_cvm (i := x3) (o := 0) (n := 3) (z := 1) (cs := D.map byteV) (e := 5) (by simp [wkB, retV, stabOk, dC, ev, fillD, pickCells, putAt, bnd, slD, List.getElem?_cons_zero, List.getElem?_cons_succ, Mem.cell, Mem.row, cells_own, cells_ro]) g3 ?_
  have hv3 := h3.rd 0 (k := D.length) (sz := 1) (X := fun i => i < m3.next) rfl (by simp) (fun e => by cases e) (fun i hi => by cases hi; exact h3.lt 0 rfl)
  have e3 : slV (some x3) D.length 1 = .slice (some ⟨x3, 0, none⟩) 3 1 := by rw [hDl]; rfl
  rw [e3] at hv3
  have hmay : mayB { f0 with size := (D.length : Int) } = true := by rw [hDl, hf0]; decide +kernel
  have hfe : ({ f0 with size := (D.length : Int) } : Fl) = ⟨⟨#[97]⟩, 3, 0, 0⟩ := by rw [hDl, hf0]; rfl
  simp -implicitDefEqProofs (disch := first | assumption | omega | fail) [wkB, retV, stabOk, dC, ev, fillD, pickCells, putAt, bnd, slD, List.getElem?_cons_zero, List.getElem?_cons_succ, Mem.cell, Mem.row, cells_own, cells_ro, hfv]
  refine c_bOf ht h3 hv3 (by rw [hf0]; show (1 : Nat) ≤ _; omega) (fun e => by rw [hmay] at e; cases e) fun _ ib HS m4 h4 _ hS => ?_
  have g4 := h4.mem (List.mem_append_right HS (List.mem_cons_of_mem _ (List.mem_cons_self ..)))
  simp -implicitDefEqProofs (disch := first | assumption | omega | fail) [wkB, retV, stabOk, dC, ev, fillD, pickCells, putAt, bnd, slD, List.getElem?_cons_zero, List.getElem?_cons_succ, Mem.cell, Mem.row, cells_own, cells_ro, g4]
  refine c_bTake h4 fun ir HR m5 h5 hR => ?_
  have p5 : Sep m (fun i => i < m.next) m5 ((HS ++ HR) ++ [(some x3, .own (D.map byteV) 5), (some x1, .own [.int .i64 3, .int .i64 5] 23)]) := h5.perm (by
    rw [← List.append_assoc]
    exact List.perm_append_comm.append_right _)
  simp -implicitDefEqProofs (disch := first | assumption | omega | fail) [wkB, retV, stabOk, dC, ev, fillD, pickCells, putAt, bnd, slD, List.getElem?_cons_zero, List.getElem?_cons_succ, Mem.cell, Mem.row, cells_own, cells_ro, rc9_0]
  refine c_talkAll (n := 40) ht hE p5.fr hS hR hmay rfl (by decide) (by omega) (by omega) fun HS' HR' m6 s r h6 hS6 hR6 z1 z2 z3 z4 z5 z6 => ?_
  have h6' := p5.un h6
  rw [hfe] at z6
  simp -implicitDefEqProofs (disch := first | assumption | omega | fail) [wkB, retV, stabOk, dC, ev, fillD, pickCells, putAt, bnd, slD, List.getElem?_cons_zero, List.getElem?_cons_succ, Mem.cell, Mem.row, cells_own, cells_ro]
  refine c_bDone h6' hR6 (fun p hp => List.mem_append_left _ (List.mem_append_right _ hp)) ?_
  simp -implicitDefEqProofs (disch := first | assumption | omega | fail) [wkB, retV, stabOk, dC, ev, fillD, pickCells, putAt, bnd, slD, List.getElem?_cons_zero, List.getElem?_cons_succ, Mem.cell, Mem.row, cells_own, cells_ro, z3, z4, errV]
  refine c_sbDone h6' hS6 (fun p hp => List.mem_append_left _ (List.mem_append_left _ hp)) ?_
  simp -implicitDefEqProofs (disch := first | assumption | omega | fail) [wkB, retV, stabOk, dC, ev, fillD, pickCells, putAt, bnd, slD, List.getElem?_cons_zero, List.getElem?_cons_succ, Mem.cell, Mem.row, cells_own, cells_ro, z1, z2, errV]
  have p6 : Sep m (fun i => i < m.next) m6 (HR' ++ (HS' ++ [(some x3, .own (D.map byteV) 5), (some x1, .own [.int .i64 3, .int .i64 5] 23)])) := h6'.perm (by
    rw [← List.append_assoc]
    exact List.perm_append_comm.append_right _)
  refine c_bData p6.fr hR6 fun oo m7 h7 hoo => ?_
  have h7' := p6.un h7
  rw [z5] at h7' hoo ⊢
  have hb7 : bstr m7 (slV oo D.length 1) = some (.string ⟨⟨D⟩⟩) := SlR.txt (h7'.slm (ob := oo) (List.mem_append_left _ (List.mem_cons_self ..)) (by simp) hoo).read
  have hDe : (D == ([120, 121, 122] : List UInt8)) = true := by rw [hD]; rfl
  simp -implicitDefEqProofs (disch := first | assumption | omega | fail) [wkB, retV, stabOk, dC, ev, fillD, pickCells, putAt, bnd, slD, List.getElem?_cons_zero, List.getElem?_cons_succ, Mem.cell, Mem.row, cells_own, cells_ro, hb7, hDe]
  refine c_bFile h7' hR6 (fun p hp => List.mem_append_left _ (List.mem_cons_of_mem _ hp)) fun m8 h8 => ?_
  have hde : dEq (.recd [(0, 0, .str), (1, 0, .int), (2, 0, .int), (3, 0, .int)]) r.file.v (.agg ⟨[.string ⟨#[97]⟩, .int .i64 3, .int .i64 0, .int .i64 0]⟩) = some true := by rw [z6]; exact dEq_fl _
  simp -implicitDefEqProofs (disch := first | assumption | omega | fail) [wkB, retV, stabOk, dC, ev, fillD, pickCells, putAt, bnd, slD, List.getElem?_cons_zero, List.getElem?_cons_succ, Mem.cell, Mem.row, cells_own, cells_ro, hde]
  exact hq m8 h8.toOld
end Go.Proofs.YthmhappejchilaaGreatDoor.Ab

set_option linter.unusedVariables false
set_option linter.unusedSimpArgs false
namespace Go.Proofs.YthmhappejchilaaGreatDoor.Ab
open Go Go.RowKit
set_option maxHeartbeats 4000000
set_option maxRecDepth 100000
noncomputable def sbTicks : Nat → Sb → Sb
  | 0, s => s
  | n + 1, s => (sbTick (sbTicks n s)).1
noncomputable def bTicks : Nat → Br → Br
  | 0, s => s
  | n + 1, s => (bTickF (bTicks n s)).1
/-- What sends, so many ticks behind its start, where nobody answers. -/
structure SbS (n : Nat) (tr wt : Int) (s : Sb) : Prop where
  o : s.over = false
  p : s.part.phase = 0
  t : s.part.tries = tr
  w : s.part.wait = wt
  r1 : 1 ≤ s.part.tr
  r2 : s.part.tr ≤ tr
  l : 1 ≤ s.part.left
  e : (n : Int) + s.part.left = wt * s.part.tr
theorem sbS_step {n : Nat} {tr wt : Int} {s : Sb} (hw : 1 ≤ wt) (h : SbS n tr wt s) : SbS (n + 1) tr wt (sbTick s).1 ∨ ((sbTick s).1.over = true ∧ (sbTick s).1.err = 10) := by
  obtain ⟨ho, hp, ht, hww, hr1, hr2, hl, he⟩ := h
  unfold sbTick
  rw [if_neg (by rw [ho]; simp)]
  unfold sTickF
  rw [if_neg (by omega)]
  by_cases hlt : 0 < s.part.left - 1
  · left
    rw [if_pos hlt]
    unfold sbAft
    rw [if_pos (by simp only; omega)]
    exact ⟨ho, hp, ht, hww, hr1, hr2, by simp only; omega, by simp only; omega⟩
  · rw [if_neg hlt]
    unfold sAgainF
    by_cases hx : s.part.tries ≤ s.part.tr
    · right
      rw [if_pos hx]
      unfold sbAft sEndF
      rw [if_neg (by simp)]
      cases hr : s.rest with
      | nil => simp
      | cons x r =>
        simp
    · left
      rw [if_neg hx]
      unfold sNowF
      rw [if_neg (by simp only; omega), if_neg (by simp only; omega)]
      unfold sbAft
      rw [if_pos (by simp only; omega)]
      refine ⟨ho, hp, ht, hww, by simp only; omega, by simp only; omega, by simp only; omega, ?_⟩
      simp only
      rw [Int.mul_add, ← he, hww]
      omega
theorem sbS_all {tr wt : Int} {s : Sb} (hw : 1 ≤ wt) (h0 : SbS 0 tr wt s) : ∀ n, SbS n tr wt (sbTicks n s) ∨ ((sbTicks n s).over = true ∧ (sbTicks n s).err = 10)
  | 0 => .inl h0
  | n + 1 => by
    rcases sbS_all hw h0 n with h | ⟨h1, h2⟩
    · exact sbS_step hw h
    · right
      have : sbTick (sbTicks n s) = (sbTicks n s, []) := by unfold sbTick; rw [if_pos h1]
      simp only [sbTicks]
      rw [this]
      exact ⟨h1, h2⟩
theorem sb_ends (tr wt : Int) (hd : List UInt8) (bs : List Bk) : (sbTicks 893 (sb0 tr wt hd bs)).over = true ∧ (sbTicks 893 (sb0 tr wt hd bs)).err = 10 := by
  have h1 := clamp_le 1 9 tr (by omega)
  have h2 := clamp_le 1 99 wt (by omega)
  have h0 : SbS 0 (clampI 1 9 tr) (clampI 1 99 wt) (sb0 tr wt hd bs) := ⟨rfl, rfl, rfl, rfl, by simp [sb0, snOf], by simp only [sb0, snOf]; omega, by simp only [sb0, snOf]; omega, by simp [sb0, snOf]⟩
  rcases sbS_all h2.1 h0 893 with h | h
  · exfalso
    have e := h.e
    have hm : clampI 1 99 wt * (sbTicks 893 (sb0 tr wt hd bs)).part.tr ≤ 99 * 9 := Int.mul_le_mul h2.2 (by have := h.r2; omega) (by have := h.r1; omega) (by omega)
    have := h.l
    omega
  · exact h
/-- What takes, so many ticks behind its start, where nobody sends. -/
structure BrS (n : Nat) (tr wt : Int) (s : Br) : Prop where
  o : s.over = false
  po : s.part.over = false
  b : s.part.begun = false
  w : s.part.wait = wt
  t1 : 0 ≤ s.part.tries
  t2 : s.part.tries ≤ tr
  l : 1 ≤ s.part.left
  e : (n : Int) + s.part.left = 1 + wt * (tr - s.part.tries)
  d : s.data = []
  f : s.file = zFl
  dl : s.part.data.length = 0
def BrE (s : Br) : Prop := s.over = true ∧ s.err = 10 ∧ s.data = [] ∧ s.file = zFl ∧ s.part.data.length = 0
theorem brS_step {n : Nat} {tr wt : Int} {s : Br} (hw : 1 ≤ wt) (h : BrS n tr wt s) : BrS (n + 1) tr wt (bTickF s).1 ∨ BrE (bTickF s).1 := by
  obtain ⟨ho, hpo, hb, hww, ht1, ht2, hl, he, hd, hf, hdl⟩ := h
  unfold bTickF
  rw [if_neg (by rw [ho]; simp)]
  unfold rTickF
  rw [if_neg (by rw [hpo]; simp)]
  by_cases hlt : 1 < s.part.left
  · left
    rw [if_pos hlt]
    unfold aftF
    rw [if_pos (by simp only; exact hpo)]
    exact ⟨ho, hpo, hb, hww, ht1, ht2, by simp only; omega, by simp only; omega, hd, hf, hdl⟩
  · rw [if_neg hlt, if_neg (by rw [hb]; simp)]
    by_cases hx : s.part.tries = 0
    · right
      rw [if_pos hx]
      unfold aftF
      rw [if_neg (by simp), if_pos (by simp)]
      exact ⟨rfl, rfl, hd, hf, hdl⟩
    · left
      rw [if_neg hx]
      unfold aftF
      rw [if_pos (by simp only; exact hpo)]
      refine ⟨ho, hpo, hb, hww, by simp only; omega, by simp only; omega, by simp only; omega, ?_, hd, hf, hdl⟩
      simp only
      have e1 : tr - (s.part.tries - 1) = (tr - s.part.tries) + 1 := by omega
      rw [e1, Int.mul_add, hww]
      omega
theorem brE_step {s : Br} (h : BrE s) : bTickF s = (s, []) := by unfold bTickF; rw [if_pos h.1]
theorem brS_all {tr wt : Int} {s : Br} (hw : 1 ≤ wt) (h0 : BrS 0 tr wt s) : ∀ n, BrS n tr wt (bTicks n s) ∨ BrE (bTicks n s)
  | 0 => .inl h0
  | n + 1 => by
    rcases brS_all hw h0 n with h | h
    · exact brS_step hw h
    · right
      simp only [bTicks]
      rw [brE_step h]
      exact h
theorem br_dl {tr wt : Int} (n : Nat) : (bTicks n (bTake tr wt)).part.data.length = 0 := by
  have h1 := clamp_le 1 9 tr (by omega)
  have h2 := clamp_le 1 99 wt (by omega)
  have h0 : BrS 0 (clampI 1 9 tr) (clampI 1 99 wt) (bTake tr wt) := ⟨rfl, rfl, rfl, rfl, by simp only [bTake, rOf]; omega, by simp only [bTake, rOf]; omega, by simp [bTake, rOf], by simp [bTake, rOf], rfl, rfl, rfl⟩
  rcases brS_all h2.1 h0 n with h | h
  · exact h.dl
  · exact h.2.2.2.2
theorem br_ends (tr wt : Int) : BrE (bTicks 893 (bTake tr wt)) := by
  have h1 := clamp_le 1 9 tr (by omega)
  have h2 := clamp_le 1 99 wt (by omega)
  have h0 : BrS 0 (clampI 1 9 tr) (clampI 1 99 wt) (bTake tr wt) := ⟨rfl, rfl, rfl, rfl, by simp only [bTake, rOf]; omega, by simp only [bTake, rOf]; omega, by simp [bTake, rOf], by simp [bTake, rOf], rfl, rfl, rfl⟩
  rcases brS_all h2.1 h0 893 with h | h
  · exfalso
    have e := h.e
    have hm : clampI 1 99 wt * (clampI 1 9 tr - (bTicks 893 (bTake tr wt)).part.tries) ≤ 99 * 9 := Int.mul_le_mul h2.2 (by have := h.t1; omega) (by have := h.t2; omega) (by omega)
    have := h.l
    omega
  · exact h
end Go.Proofs.YthmhappejchilaaGreatDoor.Ab

set_option linter.unusedVariables false
set_option linter.unusedSimpArgs false
namespace Go.Proofs.YthmhappejchilaaGreatDoor.As
open Go Go.RowKit Go.Extern.Stop Go.Stop Go.Extern
set_option maxRecDepth 100000
set_option maxHeartbeats 4000000
abbrev hd (T : TypeId) : Value := .pointer (some ⟨9, T, none⟩)
abbrev rt (T : TypeId) : Value := .iface 169 (.agg #[hd T])
theorem methodKind (h : Value) (w : World) : (Go.method 342 169 (.agg #[h]) "Kind").run Tryz.prog w = .ok (162, h) w := by kernel_rfl
theorem methodElem (h : Value) (w : World) : (Go.method 342 169 (.agg #[h]) "Elem").run Tryz.prog w = .ok (175, .agg #[h]) w := by kernel_rfl
theorem methodImplements (h : Value) (w : World) : (Go.method 342 169 (.agg #[h]) "Implements").run Tryz.prog w = .ok (176, .agg #[h]) w := by kernel_rfl
theorem methodAssignableTo (h : Value) (w : World) : (Go.method 342 169 (.agg #[h]) "AssignableTo").run Tryz.prog w = .ok (173, .agg #[h]) w := by kernel_rfl
theorem rlm (z : Sem Value) (f : TypeId → Addr → Nat → Nat → Sem Value) (v : Value) :
    ReflectliteValue.method z f #[v] = (do match ← ReflectliteValue.parts v with | none => z | some (t, a, fl) => f t a fl (fl % 32)) := rfl
theorem rls (v x : Value) : ReflectliteValue.set #[v, x] = (do
    let (some (dst, a, fl), some (src, b, _)) := (← ReflectliteValue.parts v, ← ReflectliteValue.parts x)
      | unsupported (.noEntry "extern/(internal/reflectlite.Value).Set.zeroValue")
    if fl / ReflectliteValue.flagAddr % 2 == 0 then unsupported (.noEntry "extern/(internal/reflectlite.Value).Set.unaddressable")
    let val ← loadVar src b
    if ← Rtype.directlyAssignable dst src then storeVar dst a val
    else if ← Rtype.implements dst src then
      if (← Rtype.kind src) == 20 then
        match val with
        | .nilIface => unsupported (.noEntry "extern/reflectlite: a nil value of one interface type handed on as a value of another")
        | _ => storeVar dst a val
      else storeVar dst a (.iface src val)
    else panicString ("reflectlite.Set: value of type " ++ (← Rtype.spelt src) ++ " is not assignable to type " ++ (← Rtype.spelt dst))
    pure (.tuple #[])) := rfl
end Go.Proofs.YthmhappejchilaaGreatDoor.As
set_option linter.unusedVariables false
set_option linter.unusedSimpArgs false
namespace Go.Proofs.YthmhappejchilaaGreatDoor.As
open Go Go.RowKit Go.Extern.Stop Go.Stop Go.Extern
set_option maxRecDepth 100000
set_option maxHeartbeats 4000000
theorem valueOfQ (t : Addr) (w : World) : (ReflectliteValue.unpack (.iface 108 (.pointer (some t)))).run Tryz.prog w
    = .ok (.agg #[hd 108, .pointer (some ⟨w.heap.size, 0, none⟩), .int .u64 150]) (w.alloc (.cells #[.pointer (some t)] 108)) := by kernel_rfl
theorem typeQ (a : Addr) (w : World) : (ReflectliteValue.methodAny (ReflectliteValue.valueError "reflectlite.Value.Type" 0) (fun t _ _ _ => ReflectliteType.toType t) #[.agg #[hd 108, .pointer (some a), .int .u64 150]]).run Tryz.prog w = .ok (rt 108) w := by kernel_rfl
theorem kindQ (w : World) : ((ReflectliteType.abiMethod fun t => (fun a : Nat => Value.int IntKind.u8 (a : Int)) <$> Rtype.kind t) #[hd 108]).run Tryz.prog w = .ok (.int .u8 22) w := by kernel_rfl
theorem kindE (w : World) : ((ReflectliteType.abiMethod fun t => (fun a : Nat => Value.int IntKind.u8 (a : Int)) <$> Rtype.kind t) #[hd 71]).run Tryz.prog w = .ok (.int .u8 2) w := by kernel_rfl
theorem elemQ (w : World) : (ReflectliteType.method ReflectliteType.elem #[.agg #[hd 108]]).run Tryz.prog w = .ok (rt 71) w := by kernel_rfl
theorem implE (w : World) : (ReflectliteType.relation "Implements" ReflectliteType.implements_ #[.agg #[hd 71], rt 34]).run Tryz.prog w = .ok (.bool true) w := by kernel_rfl
theorem typeOfE (v : Value) (w : World) : (ReflectliteType.typeOf #[.iface 71 v]).run Tryz.prog w = .ok (rt 71) w := by kernel_rfl
theorem assignE (w : World) : (ReflectliteType.relation "AssignableTo" ReflectliteType.assignableTo #[.agg #[hd 71], rt 71]).run Tryz.prog w = .ok (.bool true) w := by kernel_rfl
theorem valueOfE (n : Int) (w : World) : (ReflectliteValue.unpack (.iface 71 (.int .i64 n))).run Tryz.prog w
    = .ok (.agg #[hd 71, .pointer (some ⟨w.heap.size, 0, none⟩), .int .u64 130]) (w.alloc (.cells #[.int .i64 n] 71)) := by kernel_rfl
theorem partsQ (a : Addr) (w : World) : (ReflectliteValue.parts (.agg #[hd 108, .pointer (some a), .int .u64 150])).run Tryz.prog w = .ok (some (108, a, 150)) w := by kernel_rfl
theorem isNilQ (a p : Addr) (W : World) (ha : W.cell? a = some (.pointer (some p))) :
    (ReflectliteValue.method (ReflectliteValue.valueError "reflectlite.Value.IsNil" 0) ReflectliteValue.isNil #[.agg #[hd 108, .pointer (some a), .int .u64 150]]).run Tryz.prog W = .ok (.bool false) W := by
  rw [rlm]
  simp only [Sem.run_bind, partsQ, Result.andThen]
  simp [ReflectliteValue.isNil, loadVar, isAgg, underlying, Tryz.underlying108, ha, Result.andThen]
theorem elemOfQ (w : World) : (Rtype.elem? 108).run Tryz.prog w = .ok (some 71) w := by kernel_rfl
theorem mkE (p : Addr) (w : World) : (ReflectliteValue.mk 71 p ReflectliteValue.flagAddr).run Tryz.prog w = .ok (.agg #[hd 71, .pointer (some p), .int .u64 386]) w := by kernel_rfl
theorem elemVQ (a p : Addr) (W : World) (ha : W.cell? a = some (.pointer (some p))) :
    (ReflectliteValue.method (ReflectliteValue.valueError "reflectlite.Value.Elem" 0) ReflectliteValue.elem #[.agg #[hd 108, .pointer (some a), .int .u64 150]]).run Tryz.prog W
      = .ok (.agg #[hd 71, .pointer (some p), .int .u64 386]) W := by
  rw [rlm]
  simp only [Sem.run_bind, partsQ, Result.andThen]
  simp [ReflectliteValue.elem, loadVar, isAgg, underlying, Tryz.underlying108, ha, Result.andThen, elemOfQ, mkE]
theorem partsEa (a : Addr) (w : World) : (ReflectliteValue.parts (.agg #[hd 71, .pointer (some a), .int .u64 386])).run Tryz.prog w = .ok (some (71, a, 386)) w := by kernel_rfl
theorem partsE (a : Addr) (w : World) : (ReflectliteValue.parts (.agg #[hd 71, .pointer (some a), .int .u64 130])).run Tryz.prog w = .ok (some (71, a, 130)) w := by kernel_rfl
theorem directE (w : World) : (Rtype.directlyAssignable 71 71).run Tryz.prog w = .ok true w := by kernel_rfl
theorem sizeE (w : World) : (sizeOf 71).run Tryz.prog w = .ok 1 w := by kernel_rfl
theorem setE (t : Addr) (bb : Nat) (n : Int) (W W' : World) (hb0 : W.cell? ⟨bb, 0, none⟩ = some (.int .i64 n))
    (hst : (storeCells t [.int .i64 n]).run Tryz.prog W = .ok () W') :
    (ReflectliteValue.set #[.agg #[hd 71, .pointer (some t), .int .u64 386], .agg #[hd 71, .pointer (some ⟨bb, 0, none⟩), .int .u64 130]]).run Tryz.prog W = .ok (.tuple #[]) W' := by
  rw [rls]
  simp only [Sem.run_bind, partsEa, partsE, Result.andThen]
  simp [ReflectliteValue.flagAddr, loadVar, isAgg, underlying, Tryz.underlying71, Result.andThen, directE, storeVar, Value.cells, sizeE, hb0, hst]
def laidQ (w : World) (t : Addr) : World := ((w.alloc (.cells #[.pointer (some t)] 108)).alloc (.cells #[hd 108, .pointer (some ⟨w.heap.size, 0, none⟩), .int .u64 150] 144)).alloc (.cells #[hd 108, .pointer (some ⟨w.heap.size, 0, none⟩), .int .u64 150] 144)
end Go.Proofs.YthmhappejchilaaGreatDoor.As

set_option linter.unusedVariables false
set_option linter.unusedSimpArgs false
namespace Go.Proofs.YthmhappejchilaaGreatDoor.Ab
open Go Go.RowKit
set_option maxHeartbeats 1000000
set_option maxRecDepth 100000
/-- The library's type of an error lies in the world. -/
abbrev ErrT (w : World) : Prop := w.cell? ⟨0, 0, none⟩ = some (As.rt 34)
theorem errT_at {w0 w : World} {G : Loc} {m : Mem} (h : ErrT w0) (hs : St Tryz.prog w0 G m w) : ErrT w := by
  have hlt : 0 < w0.heap.size := by
    rcases Nat.lt_or_ge 0 w0.heap.size with h' | h'
    · exact h'
    · simp [ErrT, World.cell?, Array.getElem?_eq_none h'] at h
  unfold ErrT World.cell? at h ⊢
  rw [hs.below.block 0 hlt]; exact h
theorem et : Tryz.prog.globalNamed "errors.errorType" = some 0 := by kernel_rfl
theorem rtN : (Tryz.prog.cutTypes.find? (·.1 == "internal/reflectlite.rtype")).map (·.2) = some 169 := by kernel_rfl
theorem oneRow : ((List.range 242).filter fun t => Tryz.prog.rowNamed t [101, 114, 114, 111, 114]) = [34] := by kernel_rfl
theorem tsize : Tryz.prog.types.size = 242 := by kernel_rfl
/-- What the rows lay of errors.errorType. -/
theorem errT_of {l : List (String × DataW Unit)} {W : World} (h : handlesMet Tryz.prog l W) (hm : ("errors.errorType", DataW.iface "internal/reflectlite.rtype" (.agg [.ptr (.lit (.string [101, 114, 114, 111, 114]))])) ∈ l) : ErrT W := by
  obtain ⟨name, u, ty, e1, e2, e3, e4, e5⟩ := h _ hm
  have en : name = [101, 114, 114, 111, 114] := (Option.some.inj e1).symm
  subst en
  obtain rfl := Option.some.inj (rtN.symm.trans e2)
  have hm : ty ∈ (List.range 242).filter fun t => Tryz.prog.rowNamed t [101, 114, 114, 111, 114] := List.mem_filter.2 ⟨List.mem_range.2 (by rw [← tsize]; exact e3), e4⟩
  rw [oneRow] at hm
  obtain rfl := List.mem_singleton.1 hm
  have hh : typeHandle Tryz.prog 34 = .pointer (some ⟨9, 34, none⟩) := by kernel_rfl
  rw [hh] at e5
  have := World.var?_cell et e5 0
  show W.cell? ⟨0, 0, none⟩ = _
  rw [this]; rfl
end Go.Proofs.YthmhappejchilaaGreatDoor.Ab

set_option linter.unusedVariables false
set_option linter.unusedSimpArgs false
namespace Go.Proofs.YthmhappejchilaaGreatDoor.As
open Go Go.RowKit Go.Extern.Stop Go.Stop Go.Extern
set_option maxRecDepth 100000
set_option maxHeartbeats 4000000
theorem as_errno (n : Int) (t : Addr) (w W' : World) (hg : w.cell? ⟨0, 0, none⟩ = some (rt 34)) (ht : t.block < w.heap.size)
    (hst : (storeCells t [.int .i64 n]).run Tryz.prog ((laidQ w t).alloc (.cells #[.int .i64 n] 71)) = .ok () W') :
    Calls Tryz.prog 63 #[.iface 71 (.int .i64 n), .iface 108 (.pointer (some t))] w fun ev w' => ev = .returned (.bool true) ∧ w' = W' := by
  have h6 := @run_callFunc_extern Tryz.prog 92 _ (fun args => ReflectliteValue.unpack (args.getD 0 (.tuple #[]))) Tryz.func92 (by kernel_rfl) (by kernel_rfl) (by kernel_rfl) (by kernel_rfl)
  have h7 := @run_callFunc_extern Tryz.prog 93 _ (ReflectliteValue.methodAny (ReflectliteValue.valueError "reflectlite.Value.Type" 0) (fun t _ _ _ => ReflectliteType.toType t)) Tryz.func93 (by kernel_rfl) (by kernel_rfl) (by kernel_rfl) (by kernel_rfl)
  have h8 := @run_callFunc_extern Tryz.prog 94 _ (ReflectliteValue.method (ReflectliteValue.valueError "reflectlite.Value.IsNil" 0) ReflectliteValue.isNil) Tryz.func94 (by kernel_rfl) (by kernel_rfl) (by kernel_rfl) (by kernel_rfl)
  have h27 := @run_callFunc_extern Tryz.prog 162 _ (ReflectliteType.abiMethod fun t => do pure (.int .u8 (← Rtype.kind t))) Tryz.func162 (by kernel_rfl) (by kernel_rfl) (by kernel_rfl) (by kernel_rfl)
  have h37 := @run_callFunc_extern Tryz.prog 175 _ (ReflectliteType.method ReflectliteType.elem) Tryz.func175 (by kernel_rfl) (by kernel_rfl) (by kernel_rfl) (by kernel_rfl)
  have h38 := @run_callFunc_extern Tryz.prog 176 _ (ReflectliteType.relation "Implements" ReflectliteType.implements_) Tryz.func176 (by kernel_rfl) (by kernel_rfl) (by kernel_rfl) (by kernel_rfl)
  have h10 := @run_callFunc_extern Tryz.prog 113 _ ReflectliteType.typeOf Tryz.func113 (by kernel_rfl) (by kernel_rfl) (by kernel_rfl) (by kernel_rfl)
  have h35 := @run_callFunc_extern Tryz.prog 173 _ (ReflectliteType.relation "AssignableTo" ReflectliteType.assignableTo) Tryz.func173 (by kernel_rfl) (by kernel_rfl) (by kernel_rfl) (by kernel_rfl)
  have h11 := @run_callFunc_extern Tryz.prog 114 _ (ReflectliteValue.method (ReflectliteValue.valueError "reflectlite.Value.Elem" 0) ReflectliteValue.elem) Tryz.func114 (by kernel_rfl) (by kernel_rfl) (by kernel_rfl) (by kernel_rfl)
  have h12 := @run_callFunc_extern Tryz.prog 115 _ ReflectliteValue.set Tryz.func115 (by kernel_rfl) (by kernel_rfl) (by kernel_rfl) (by kernel_rfl)
  have tO2 := typeOfE
  have mA := methodAssignableTo
  have a26 := assignE
  have v25 := valueOfE
  have f6 := valueOfQ
  have f7 := typeQ
  have mK := methodKind
  have mE := methodElem
  have mI := methodImplements
  have k27 := kindQ
  have k25 := kindE
  have e27 := elemQ
  have i25 := implE
  have hlt : 0 < w.heap.size := by
    rcases Nat.lt_or_ge 0 w.heap.size with h | h
    · exact h
    · simp [World.cell?, Array.getElem?_eq_none h] at hg
  have n8 := isNilQ ⟨w.heap.size, 0, none⟩ t ((w.alloc (.cells #[.pointer (some t)] 108)).alloc (.cells #[hd 108, .pointer (some ⟨w.heap.size, 0, none⟩), .int .u64 150] 144)) (by simp)
  have hg2 : ((w.alloc (.cells #[.pointer (some t)] 108)).alloc (.cells #[hd 108, .pointer (some ⟨w.heap.size, 0, none⟩), .int .u64 150] 144)).cell? ⟨0, 0, none⟩ = some (rt 34) := by
    rw [World.cell?_alloc_lt _ _ ⟨0, 0, none⟩ (by first | (simp; done) | (simp; omega)), World.cell?_alloc_lt _ _ ⟨0, 0, none⟩ hlt]; exact hg
  have el := elemVQ ⟨w.heap.size, 0, none⟩ t (laidQ w t) (by unfold laidQ; rw [World.cell?_alloc_lt _ _ ⟨w.heap.size, 0, none⟩ (by simp; omega)]; simp)
  have st := setE t (w.heap.size + 1 + 1 + 1) n ((laidQ w t).alloc (.cells #[.int .i64 n] 71)) W'
    (by rw [World.cell?_alloc_at _ _ _ _ (by simp [laidQ])]; rfl) hst
  unfold laidQ at el st
  clear hst
  go_enter Tryz.func63, Tryz.ntmps63
  go_wp2
  refine wp_loop_rounds 1 ?_
  rw [rounds_succ]
  go_wp2
  go_ret
  exact ⟨rfl, rfl⟩
end Go.Proofs.YthmhappejchilaaGreatDoor.As
namespace Go.Proofs.YthmhappejchilaaGreatDoor.Ab
open Go Go.RowKit
set_option maxHeartbeats 4000000
set_option maxRecDepth 100000
theorem c_asErrno {w0 : World} {m : Mem} {i : Nat} {n : Int} {c0 : Value} {Q : Value → Mem → Prop} (hT : ErrT w0) (hg : m.get i = .own [c0] 71) (hq : Q (.bool true) (m.set i (.own [.int .i64 n] 71))) :
    AbC Tryz.prog w0 63 [.iface 71 (.int .i64 n), .iface 108 (.pointer (some ⟨i, 0, none⟩))] m Q := by
  intro G w args' hs hargs
  cases hargs with
  | cons _ v1 _ l1 h1 hargs =>
  cases hargs with
  | cons _ v2 _ l2 h2 hargs =>
  cases hargs
  have e1 : v1 = .iface 71 (.int .i64 n) := VR.plain_eq 6 _ _ rfl h1
  subst e1
  cases h2 with
  | iface _ _ v2 h2 =>
  cases h2 with
  | ptr _ _ B b S hG =>
  rw [run_callFunc_enter (by kernel_rfl)]
  show Calls _ _ _ _ _
  have hlt : B < w.heap.size := hs.lim i B b S (by rw [hg]; simp) hG
  have hbel : Below w.heap.size w ((As.laidQ w ⟨B, b + 0, none⟩).alloc (.cells #[.int .i64 n] 71)) :=
    ((((Below.refl _ w).alloc (by simp) _).alloc (by simp) _).alloc (by simp; omega) _).alloc (by simp [As.laidQ]; omega) _
  have hs4 := hs.grown hbel
  obtain ⟨w', h3, h4⟩ := snd_put (o := 0) (vs := [.int .i64 n]) (vs' := [.int .i64 n]) hs4 hG hg (by simp) (.cons _ _ _ _ (.int _ _) .nil) rfl
  refine (As.as_errno n ⟨B, b + 0, none⟩ w w' (errT_at hT hs) hlt h3).mono ?_
  rintro e w2 ⟨rfl, rfl⟩
  exact ⟨_, rfl, G, .bool true, _, Loc.le_refl G, .bool true, h4, hq⟩
def errnoV (n : Nat) : Value := if n = 0 then .nilIface else .iface 71 (.int .i64 (n : Int))
theorem c_NumberE {w0 : World} {m : Mem} {n : Nat} {Q : Value → Mem → Prop} (hT : ErrT w0) (hq : ∀ m', Old m m' → Q (.int .i64 (n : Int)) m') : AbC Tryz.prog w0 39 [errnoV n] m Q := by
  refine AbC_fn ok39 (by simp) ?_
  by_cases h0 : n = 0
  · subst h0
    have hv : errnoV 0 = .nilIface := rfl
    simp -implicitDefEqProofs (disch := first | assumption | (simp only [wnA]; done) | (simp only [wnA]; omega) | omega | fail) [rc39, ro39, wkA, retV, stabOk, dC, ev, fillD, pickCells, putAt, bnd, slD, List.getElem?_cons_zero, List.getElem?_cons_succ, dR.eq_20, Mem.cell, Mem.row, wmA, hv]
    refine AbC_fn ok63 (by simp) ?_
    simp -implicitDefEqProofs (disch := first | assumption | (simp only [wnA]; done) | (simp only [wnA]; omega) | omega | fail) [rc63, ro63, wkA, retV, stabOk, dC, ev, fillD, pickCells, putAt, bnd, slD, List.getElem?_cons_zero, List.getElem?_cons_succ, dR.eq_20, Mem.cell, Mem.row, wmA, rc39_0]
    exact hq _ ((Old.refl m).push _)
  · have hv : errnoV n = .iface 71 (.int .i64 (n : Int)) := by unfold errnoV; rw [if_neg h0]
    simp -implicitDefEqProofs (disch := first | assumption | (simp only [wnA]; done) | (simp only [wnA]; omega) | omega | fail) [rc39, ro39, wkA, retV, stabOk, dC, ev, fillD, pickCells, putAt, bnd, slD, List.getElem?_cons_zero, List.getElem?_cons_succ, dR.eq_20, Mem.cell, Mem.row, wmA, hv]
    refine c_asErrno hT (c0 := .int .i64 0) (by simp) ?_
    simp -implicitDefEqProofs (disch := first | assumption | (simp only [wnA]; done) | (simp only [wnA]; omega) | omega | fail) [wkA, retV, stabOk, dC, ev, fillD, pickCells, putAt, bnd, slD, List.getElem?_cons_zero, List.getElem?_cons_succ, dR.eq_20, Mem.cell, Mem.row, wmA]
    exact hq _ (((Old.refl m).push _).set (Nat.le_refl _) _)
end Go.Proofs.YthmhappejchilaaGreatDoor.Ab

set_option linter.unusedVariables false
set_option linter.unusedSimpArgs false
namespace Go.Proofs.YthmhappejchilaaGreatDoor.Ab
open Go Go.RowKit
set_option maxHeartbeats 4000000
set_option maxRecDepth 100000
theorem errV_no {n : Nat} : errV n = errnoV n := by
  unfold errnoV
  cases n with
  | zero => rfl
  | succ n => rw [if_neg (by omega)]; rfl
end Go.Proofs.YthmhappejchilaaGreatDoor.Ab

set_option linter.unusedVariables false
set_option linter.unusedSimpArgs false
namespace Go.Proofs.YthmhappejchilaaGreatDoor.Ab
open Go Go.RowKit
set_option maxHeartbeats 4000000
set_option maxRecDepth 100000
theorem perm_sw {A B C : HL} : (A ++ (B ++ C)).Perm (B ++ (A ++ C)) := by
  rw [← List.append_assoc, ← List.append_assoc]
  exact List.perm_append_comm.append_right _
theorem perm_as {A B C : HL} : (A ++ (B ++ C)).Perm ((B ++ A) ++ C) := by
  rw [← List.append_assoc]
  exact List.perm_append_comm.append_right _
theorem l_BEnds {w0 : World} {m : Mem} {tr wt : Int} {v : Value} {b : List UInt8} {n : Nat} (hp : Part L0 m) (ht : Ten w0) (hE : ErrV w0) (hT : ErrT w0)
    (hr : RdV (fun i => i < m.next) m 1 v (b.map byteV) b.length) (hl : b.length ≤ 9223372036854775807) (hn : n < 65536) :
    AbC Tryz.prog w0 8 [.agg ⟨[.int .i64 tr, .int .i64 wt]⟩, v, .int .u16 (n : Int)] m fun u _ => u = .bool true := by
  refine AbC_fn ok8 (by simp) ?_
  simp -implicitDefEqProofs (disch := first | assumption | omega | fail) [rc8, ro8, wkB, retV, stabOk, dC, ev, fillD, pickCells, putAt, bnd, slD, List.getElem?_cons_zero, List.getElem?_cons_succ, Mem.cell, Mem.row, cells_own, cells_ro]
  refine SK_bxS (Sep.ofOld hp) (cs := [.int .i64 tr, .int .i64 wt]) (by simp [wkB, retV, stabOk, dC, ev, fillD, pickCells, putAt, bnd, slD, List.getElem?_cons_zero, List.getElem?_cons_succ, Mem.cell, Mem.row, cells_own, cells_ro]) fun xc m1 h1 _ _ => ?_
  simp -implicitDefEqProofs (disch := first | assumption | omega | fail) [wkB, retV, stabOk, dC, ev, fillD, pickCells, putAt, bnd, slD, List.getElem?_cons_zero, List.getElem?_cons_succ, Mem.cell, Mem.row, cells_own, cells_ro]
  refine c_awakeB h1.pt ht hE fun m2 o2 => ?_
  have h2 := h1.old o2
  have g2 := h2.get 0 rfl
  obtain ⟨F0, hF0⟩ : ∃ F0 : Fl, F0 = ⟨⟨#[97]⟩, 0, 0, 0⟩ := ⟨_, rfl⟩
  have hFv : (Value.agg ⟨[.string ⟨#[97]⟩, .int .i64 0, .int .i64 0, .int .i64 0]⟩) = F0.v := by rw [hF0]; rfl
  simp -implicitDefEqProofs (disch := first | assumption | omega | fail) [wkB, retV, stabOk, dC, ev, fillD, pickCells, putAt, bnd, slD, List.getElem?_cons_zero, List.getElem?_cons_succ, Mem.cell, Mem.row, cells_own, cells_ro, rc8_4, g2]
  refine c_bBytes h2.pt (hr.sep h2) hl hn fun D xd m3 h3 hD => ?_
  have h3 := h2.addO h3
  have g3 := h3.get 1 rfl
  have hv3 := h3.rd 0 (k := D.length) (sz := 1) (X := fun i => i < m3.next) rfl (by simp) (fun e => by cases e) (fun i hi => by cases hi; exact h3.lt 0 rfl)
  have hmay : mayB { F0 with size := (D.length : Int) } = true := by
    have h97 : nameB ⟨#[97]⟩ = true := by decide +kernel
    rw [hF0]; simp only [mayB, h97, Bool.and_eq_true, decide_eq_true_eq]
    exact ⟨trivial, by omega, by omega, by omega, by omega, by omega, by omega⟩
  simp -implicitDefEqProofs (disch := first | assumption | omega | fail) [wkB, retV, stabOk, dC, ev, fillD, pickCells, putAt, bnd, slD, List.getElem?_cons_zero, List.getElem?_cons_succ, Mem.cell, Mem.row, cells_own, cells_ro, g3, hFv]
  refine c_bOf ht h3 hv3 (by rw [hF0]; show (1 : Nat) ≤ _; omega) (fun e => by rw [hmay] at e; cases e) fun _ ib HS m4 h4 _ hS => ?_
  have g4 := h4.mem (List.mem_append_right HS (List.mem_cons_of_mem _ (List.mem_cons_self ..)))
  simp -implicitDefEqProofs (disch := first | assumption | omega | fail) [wkB, retV, stabOk, dC, ev, fillD, pickCells, putAt, bnd, slD, List.getElem?_cons_zero, List.getElem?_cons_succ, Mem.cell, Mem.row, cells_own, cells_ro, g4]
  refine c_bTake h4 fun ir HR m5 h5 hR => ?_
  have p5 := h5.perm (l' := (HS ++ HR) ++ _) (by
    rw [← List.append_assoc]
    exact List.perm_append_comm.append_right _)
  simp -implicitDefEqProofs (disch := first | assumption | omega | fail) [wkB, retV, stabOk, dC, ev, fillD, pickCells, putAt, bnd, slD, List.getElem?_cons_zero, List.getElem?_cons_succ, Mem.cell, Mem.row, cells_own, cells_ro, rc8_3]
  refine LoopW_of (fun k ts m' => ∃ (j : Nat) (HS HR : HL), j + k = 893 ∧ Sep m (fun i => i < m.next) m' ((HS ++ HR) ++ ([(some xd, .own (D.map byteV) 5)] ++ [(some xc, .own [.int .i64 tr, .int .i64 wt] 23)])) ∧ SbR HS ib (sbTicks j (sb0 tr wt (padL (tellL { F0 with size := (D.length : Int) })) (numL (splitL true D)))) ∧ BrR HR ir (bTicks j (bTake tr wt)) ∧ ts 7 = .pointer (some ⟨ib, 0, none⟩) ∧ ts 9 = .pointer (some ⟨ir, 0, none⟩) ∧ ts 10 = .int .i64 (j : Int)) 893 ?_ ?_
  · exact ⟨0, HS, HR, by omega, p5, hS, hR, by simp, by simp, by simp⟩
  rintro k ts m6 K ⟨j, HS, HR, hj, h6, hS6, hR6, t7, t9, t10⟩ hK
  by_cases hjn : j < 893
  · have hj8 : (j : Int) < 893 := by omega
    have hjw : IntKind.i64.wrap ((j : Int) + 1) = (j : Int) + 1 := w64 (by omega)
    rw [List.append_assoc] at h6
    simp -implicitDefEqProofs (disch := first | assumption | omega | fail) [rc8_1, rc8_0, wkB, retV, stabOk, dC, ev, fillD, pickCells, putAt, bnd, slD, List.getElem?_cons_zero, List.getElem?_cons_succ, Mem.cell, Mem.row, cells_own, cells_ro, t7, t9, t10, hj8]
    refine c_sbTick h6.fr hS6 fun o7 HS7 m7 h7 hS7 _ => ?_
    have p7 := ((h6.un h7).tl).perm perm_sw
    simp -implicitDefEqProofs (disch := first | assumption | omega | fail) [wkB, retV, stabOk, dC, ev, fillD, pickCells, putAt, bnd, slD, List.getElem?_cons_zero, List.getElem?_cons_succ, Mem.cell, Mem.row, cells_own, cells_ro, t9]
    refine c_bTick ht hE p7.fr hR6 (by have := br_dl (tr := tr) (wt := wt) j; omega) fun o8 HR8 m8 h8 hR8 _ => ?_
    have p8 := ((p7.un h8).tl).perm perm_as
    simp -implicitDefEqProofs (disch := first | assumption | omega | fail) [wkB, retV, stabOk, dC, ev, fillD, pickCells, putAt, bnd, slD, List.getElem?_cons_zero, List.getElem?_cons_succ, Mem.cell, Mem.row, cells_own, cells_ro, t10, hjw]
    exact hK (k - 1) _ _ (by omega) ⟨j + 1, HS7, HR8, by omega, p8, hS7, hR8, by simp [t7], by simp [t9], by simp⟩
  · have hj2 : j = 893 := by omega
    subst hj2
    have z1 := sb_ends tr wt (padL (tellL { F0 with size := (D.length : Int) })) (numL (splitL true D))
    obtain ⟨y1, y2, y3, y4, -⟩ := br_ends tr wt
    generalize sbTicks 893 (sb0 tr wt (padL (tellL { F0 with size := (D.length : Int) })) (numL (splitL true D))) = s at *
    generalize bTicks 893 (bTake tr wt) = r at *
    simp -implicitDefEqProofs (disch := first | assumption | omega | fail) [rc8_1, rc8_2, wkB, retV, stabOk, dC, ev, fillD, pickCells, putAt, bnd, slD, List.getElem?_cons_zero, List.getElem?_cons_succ, Mem.cell, Mem.row, cells_own, cells_ro, t7, t9, t10]
    refine c_sbDone h6 hS6 (fun p hp => List.mem_append_left _ (List.mem_append_left _ hp)) ?_
    simp -implicitDefEqProofs (disch := first | assumption | omega | fail) [wkB, retV, stabOk, dC, ev, fillD, pickCells, putAt, bnd, slD, List.getElem?_cons_zero, List.getElem?_cons_succ, Mem.cell, Mem.row, cells_own, cells_ro, z1.1, z1.2, t9]
    refine c_bDone h6 hR6 (fun p hp => List.mem_append_left _ (List.mem_append_right _ hp)) ?_
    simp -implicitDefEqProofs (disch := first | assumption | omega | fail) [wkB, retV, stabOk, dC, ev, fillD, pickCells, putAt, bnd, slD, List.getElem?_cons_zero, List.getElem?_cons_succ, Mem.cell, Mem.row, cells_own, cells_ro, y1, y2, t9]
    rw [errV_no]
    refine c_NumberE hT fun m7 o7 => ?_
    have h7 := h6.old o7
    simp -implicitDefEqProofs (disch := first | assumption | omega | fail) [wkB, retV, stabOk, dC, ev, fillD, pickCells, putAt, bnd, slD, List.getElem?_cons_zero, List.getElem?_cons_succ, Mem.cell, Mem.row, cells_own, cells_ro]
    refine c_NumberE hT fun m8 o8 => ?_
    have h8 := h7.old o8
    simp -implicitDefEqProofs (disch := first | assumption | omega | fail) [wkB, retV, stabOk, dC, ev, fillD, pickCells, putAt, bnd, slD, List.getElem?_cons_zero, List.getElem?_cons_succ, Mem.cell, Mem.row, cells_own, cells_ro, t9]
    rw [List.append_assoc] at h8
    have pB := h8.perm perm_sw
    refine c_bData pB.fr hR6 fun oo mC hC hoo => ?_
    have hC' := pB.un hC
    rw [y3] at hC' hoo ⊢
    have hsl := (hC'.slm (ob := oo) (k := ([] : List UInt8).length) (sz := 1) (List.mem_append_left _ (List.mem_cons_self ..)) (by simp) hoo).slen
    simp only [List.length_nil] at hsl ⊢
    simp -implicitDefEqProofs (disch := first | assumption | omega | fail) [wkB, retV, stabOk, dC, ev, fillD, pickCells, putAt, bnd, slD, List.getElem?_cons_zero, List.getElem?_cons_succ, Mem.cell, Mem.row, cells_own, cells_ro, hsl, t9]
    refine c_bFile hC' hR6 (fun p hp => List.mem_append_left _ (List.mem_cons_of_mem _ hp)) fun mD hD => ?_
    have hde : dEq (.recd [(0, 0, .str), (1, 0, .int), (2, 0, .int), (3, 0, .int)]) r.file.v (.agg ⟨[.string ⟨#[]⟩, .int .i64 0, .int .i64 0, .int .i64 0]⟩) = some true := by
      rw [y4]; exact dEq_fl zFl
    simp -implicitDefEqProofs (disch := first | assumption | omega | fail) [wkB, retV, stabOk, dC, ev, fillD, pickCells, putAt, bnd, slD, List.getElem?_cons_zero, List.getElem?_cons_succ, Mem.cell, Mem.row, cells_own, cells_ro, hde]
end Go.Proofs.YthmhappejchilaaGreatDoor.Ab

set_option linter.unusedVariables false
set_option linter.unusedSimpArgs false
namespace Go.Proofs.YthmhappejchilaaGreatDoor.Ab
open Go Go.RowKit
set_option maxHeartbeats 4000000
set_option maxRecDepth 100000
theorem absT_cfgB {m : Mem} {td : TD} {cs : List Value} (h : AbsT m td cs) (hf : Fits (.recd [.int .i64, .int .i64]) td) : ∃ tr wt : Int, cs = [.int .i64 tr, .int .i64 wt] := by
  obtain ⟨l0, rfl, k, f⟩ := absT_recd h hf
  obtain ⟨d1, r1, c1, e1, rfl, rfl, h1, g1, k, f⟩ := absTs_cons k f
  obtain ⟨d2, r2, c2, e2, rfl, rfl, h2, g2, k, f⟩ := absTs_cons k f
  obtain ⟨rfl, rfl⟩ := absTs_nil k f
  obtain ⟨a, rfl, rfl, w1⟩ := absT_int h1 g1
  obtain ⟨b, rfl, rfl, w2⟩ := absT_int h2 g2
  exact ⟨a, b, rfl⟩
theorem absT_bysB {m : Mem} {td : TD} {v v' : Value} {G : Loc} (h : AbsT m td [v]) (hs : Fits (.sl (.int .u8)) td) (hu : VR G v v') : ∃ bs : List UInt8, RdV (fun i => i < m.next) m 1 v (bs.map byteV) bs.length ∧ bs.length ≤ 9223372036854775807 := by
  obtain ⟨bs, c, d, l⟩ := absT_bys h hs
  exact ⟨bs, ⟨c, fun i hi => ⟨d i hi, d i hi⟩⟩, Nat.le_trans (sl_max c hu) (by unfold maxLen; omega)⟩
theorem l_BEndsI {w0 : World} {m : Mem} {cs : List Value} {v1 y1 : Value} {G1 : Loc} {t0 t1 : TD} {n : Int} (hp : Part L0 m) (ht : Ten w0) (hE : ErrV w0) (hT : ErrT w0) (h0 : AbsT m t0 cs) (f0 : Fits (.recd [.int .i64, .int .i64]) t0)
    (h1 : AbsT m t1 [v1]) (f1 : Fits (.sl (.int .u8)) t1) (u1 : VR G1 v1 y1) (w3 : (Lit.int .u16 n).wf = true) :
    AbC Tryz.prog w0 8 [.agg ⟨cs⟩, v1, .int .u16 n] m fun u _ => u = .bool true := by
  obtain ⟨tr, wt, rfl⟩ := absT_cfgB h0 f0
  obtain ⟨b1, r1, l1⟩ := absT_bysB h1 f1 u1
  have a3 := wf_u16 w3
  obtain ⟨n, rfl⟩ : ∃ k : Nat, n = (k : Int) := ⟨n.toNat, by omega⟩
  exact l_BEnds hp ht hE hT r1 l1 (by omega)
end Go.Proofs.YthmhappejchilaaGreatDoor.Ab

namespace Go.Proofs.YthmhappejchilaaGreatDoor.batchEnds
open Go Go.ChangeShapes Go.WideShapes Go.ChangeAt Go.RowKit Go.Proofs.YthmhappejchilaaGreatDoor.Ab
set_option linter.unusedVariables false
theorem own : ownKnob Tryz.prog.godebug = none := by kernel_rfl
theorem laidOut : laidOutB Tryz.prog = true := by kernel_rfl
set_option maxRecDepth 100000 in
theorem contract (H : Type) (enc : TypeId × Value → H) (W : World) (base : Nat) (args : Array Value) (ds gs : List (DataW H)) (before : List MemPlace)
    (hval : ∀ (j : Nat) t v, Tryz.f8.params[j]? = some t → args[j]? = some v → Value.okWide Tryz.prog W .any base t v)
    (hW : DataW.Whole enc Tryz.prog Tryz.f8.params.toList Rows.batchEndsSpec.vars false W args.toList ds gs before) (hL : laidMetH Tryz.prog Rows.batchEndsRow.laid W) :
    Calls Tryz.prog 8 args W fun e W' => ∃ v, e = .returned v ∧ Rows.batchEndsSpec.post enc Tryz.prog Tryz.f8 false true false false W args v W' := by
  have hW' := hW
  obtain ⟨hL', hLh⟩ := (show laidMet Tryz.prog (Rows.batchEndsRow.laid.filter fun x => x.2.handleName?.isNone) W ∧ handlesMet Tryz.prog (Rows.batchEndsRow.laid.filter fun x => x.2.handleName?.isSome) W from hL)
  obtain ⟨p, q, hA0, hV, rfl, hfz, hnd⟩ := hW
  have hA : DataW.TrodAll enc Tryz.prog W 0 (fun _ => true) true Tryz.f8.params.toList args.toList ds p := hA0
  rw [Tryz.params8] at hA hval
  obtain ⟨v0, vs0, d0, ds0, p0, q0, hargs, rfl, rfl, h0, r0⟩ := trodAll_cons hA
  obtain ⟨v1, vs1, d1, ds1, p1, q1, rfl, rfl, rfl, h1, r1⟩ := trodAll_cons r0
  obtain ⟨v2, vs2, d2, ds2, p2, q2, rfl, rfl, rfl, h2, r2⟩ := trodAll_cons r1
  obtain ⟨rfl, rfl, rfl⟩ := trodAll_nil r2
  obtain rfl : args = #[v0, v1, v2] := by cases args; simp_all
  obtain ⟨rfl, rfl⟩ := trodVars_none hV
  obtain ⟨a0, rfl, sz0⟩ := okWide_struct Tryz.underlying23 (hval 0 23 v0 rfl rfl)
  have lt0 : ∀ x ∈ p0, x.block < W.heap.size := by obtain ⟨m, hm⟩ := h0; exact DataW.trod_lt m _ _ _ hm
  obtain ⟨a1, len1, cap1, rfl⟩ := okWide_slice Tryz.underlying24 (hval 1 24 v1 rfl rfl)
  have lt1 : ∀ x ∈ p1, x.block < W.heap.size := by obtain ⟨m, hm⟩ := h1; exact DataW.trod_lt m _ _ _ hm
  obtain ⟨a2, rfl⟩ := okWide_int Tryz.underlying25 (hval 2 25 v2 rfl rfl)
  have lt2 : ∀ x ∈ p2, x.block < W.heap.size := by obtain ⟨m, hm⟩ := h2; exact DataW.trod_lt m _ _ _ hm
  have s : St Tryz.prog W (G0 Tryz.prog) (toMem L0) W := St.laid globals_size L0_get laid_ok (laidIn hL' (List.mem_of_getElem? (i := 0) rfl) (List.mem_of_getElem? (i := 1) rfl) (List.mem_of_getElem? (i := 2) rfl))
  have hp : Part L0 (toMem L0) := Part.of L0_part (Nat.le_refl _) fun _ _ => rfl
  obtain ⟨G0, m0, x0, t0, g0, s0, u0, b0, f0, k0⟩ := arg_agg (k := 5) (s := (.recd [.int .i64, .int .i64])) (by kernel_rfl) h0 s
  have hp := g0.part hp
  obtain ⟨G1, m1, x1, t1, g1, s1, u1, b1, f1, k1⟩ := arg_one (k := 5) (s := (.sl (.int .u8))) (by kernel_rfl) h1 rfl s0
  have hp := g1.part hp
  have b0 := b0.mono g1.2.1 g1.2.2
  have u0 := u0.mono g1.1
  obtain ⟨G2, m2, x2, t2, g2, s2, u2, b2, f2, k2⟩ := arg_one (k := 5) (s := .int .u16) (by kernel_rfl) h2 rfl s1
  have hp := g2.part hp
  have b0 := b0.mono g2.2.1 g2.2.2
  have u0 := u0.mono g2.1
  have b1 := b1.mono g2.2.1 g2.2.2
  have u1 := u1.mono g2.1
  refine (AbC_true s2 (.cons _ _ _ _ u0 (.cons _ _ _ _ u1 (.cons _ _ _ _ u2 .nil))) ((by obtain ⟨n2, hx2, -, w2⟩ := absT_int b2 f2; cases hx2; exact l_BEndsI hp (ten_of hL' (List.mem_of_getElem? (i := 2) rfl)) (errV_of hL' (List.mem_of_getElem? (i := 5) rfl) (List.mem_of_getElem? (i := 4) rfl)) (errT_of hLh (List.mem_of_getElem? (i := 0) rfl)) b0 f0 b1 f1 u1 w2)) (by kernel_rfl)).mono fun e W' ⟨he, bel⟩ => ?_
  subst he
  exact ⟨_, rfl, _, _, _, [], _, [], hW', trodAll_mk1 (shut_bool Tryz.underlying4 _), (trodAll_cons_mk (Below.trod laidOut (by kernel_rfl) (of_decide_eq_true (by kernel_rfl)) h0 bel lt0) (trodAll_cons_mk (Below.trod laidOut (by kernel_rfl) (of_decide_eq_true (by kernel_rfl)) h1 bel lt1) (trodAll_cons_mk (Below.trod laidOut (by kernel_rfl) (of_decide_eq_true (by kernel_rfl)) h2 bel lt2) trodAll_mk0))), rfl, bel.frame _, fun h => by cases h⟩
noncomputable def laidWorld (os : Os) : World :=
  let N := (World.settled Tryz.prog os).heap.size
  { World.holding Tryz.prog os ⟨#[.cells #[.string ⟨#[118, 97, 108, 117, 101, 32, 111, 117, 116, 32, 111, 102, 32, 114, 97, 110, 103, 101]⟩] 215, .cells #[.string ⟨#[105, 110, 118, 97, 108, 105, 100, 32, 115, 121, 110, 116, 97, 120]⟩] 215], #[], []⟩ with heap := (((((((((World.holding Tryz.prog os ⟨#[.cells #[.string ⟨#[118, 97, 108, 117, 101, 32, 111, 117, 116, 32, 111, 102, 32, 114, 97, 110, 103, 101]⟩] 215, .cells #[.string ⟨#[105, 110, 118, 97, 108, 105, 100, 32, 115, 121, 110, 116, 97, 120]⟩] 215], #[], []⟩).heap.modify 5 fun | .cells _ t frozen => .cells ⟨e32⟩ t frozen | o => o).modify 6 fun | .cells _ t frozen => .cells ⟨e64⟩ t frozen | o => o).modify 1 fun | .cells _ t frozen => .cells ⟨e10⟩ t frozen | o => o).modify 4 fun | .cells _ t frozen => .cells #[.iface 213 (.pointer (some ⟨N, 0, none⟩))] t frozen | o => o).modify 3 fun | .cells _ t frozen => .cells #[.iface 213 (.pointer (some ⟨N + 1, 0, none⟩))] t frozen | o => o).modify 7 fun | .cells _ t frozen => .cells ⟨Go.Pinned.utf8FirstZ.map fun (n : Nat) => Value.int .u8 (n : Int)⟩ t frozen | o => o).modify 8 fun | .cells _ t frozen => .cells ⟨([128, 191, 160, 191, 128, 159, 144, 191, 128, 143] ++ List.replicate 22 0 : List Int).map fun (n : Int) => Value.int .u8 n⟩ t frozen | o => o).modify 0 fun | .cells _ t frozen => .cells #[.iface 169 (.agg #[.pointer (some ⟨9, 34, none⟩)])] t frozen | o => o) }
theorem laid_met (os : Os) : laidMetH Tryz.prog Rows.batchEndsRow.laid ((laidWorld os).forCall (fun _ _ => 0) ⟨#[], #[(.agg #[.int .i64 0, .int .i64 0] : Value), (.slice none 0 0 : Value), (.int .u16 0 : Value)], []⟩).memory :=
  laidMetH_of_parts (laidMet_of_run' 8 (by kernel_rfl) (by kernel_rfl)) (by kernel_rfl)
theorem reads (os : Os) {H : Type} (enc : TypeId × Value → H) : ∃ places, DataW.whole enc Tryz.prog ((laidWorld os).forCall (fun _ _ => 0) ⟨#[], #[(.agg #[.int .i64 0, .int .i64 0] : Value), (.slice none 0 0 : Value), (.int .u16 0 : Value)], []⟩).memory Tryz.f8.params.toList Rows.batchEndsSpec.vars false [(.agg #[.int .i64 0, .int .i64 0] : Value), (.slice none 0 0 : Value), (.int .u16 0 : Value)] 8 = some ([.agg [.lit (.int .i64 0), .lit (.int .i64 0)], .nil, .lit (.int .u16 0)], [], places) :=
  ⟨[], by kernel_rfl⟩
set_option maxRecDepth 100000 in
theorem lifted (os : Os) (started : os.Started) (H : Type) (enc : TypeId × Value → H) (F : Stop.Interp) :
    ReturnsInHanded {} Tryz.checked os 8 .any ((OpenSpec.ofChange Rows.batchEndsSpec).preRow enc Tryz.prog Tryz.f8 Rows.batchEndsRow.domain false Rows.batchEndsRow.laid) (((OpenSpec.ofChange Rows.batchEndsSpec).at F).post enc Tryz.prog Tryz.f8 false true false false) := by
  obtain ⟨places, hx⟩ := reads os enc
  refine returnsInHanded_of_row (C := Tryz.checked) (s := (OpenSpec.ofChange Rows.batchEndsSpec)) own started (by kernel_rfl) Tryz.func8
    (witness_row_atRef (enc := enc) (C := Tryz.checked) false (laidWorld os) #[(.agg #[.int .i64 0, .int .i64 0] : Value), (.slice none 0 0 : Value), (.int .u16 0 : Value)] rfl (by kernel_rfl) (by kernel_rfl) (by kernel_rfl)
      (OpenSpec.preRow_of_cond 8 hx (by kernel_rfl) (fun k hk => by cases hk) (by kernel_rfl) (laid_met os))) ?_
  intro W base args ds gs before hval hW _ _ _ hL _ _
  exact contract H enc W base args ds gs before hval hW hL
theorem over : Rows.BatchEndsSaid :=
  OpenClaim.holds_of_cond 8 Tryz.f8 rfl rfl rfl rfl rfl rfl rfl ⟨rfl, rfl, rfl, rfl, rfl⟩ rfl rfl rfl rfl rfl (by kernel_rfl) Tryz.func8 (by kernel_rfl)
    (of_decide_eq_true (by kernel_rfl)) (by unfold Func.isWrapper; first | (rw [if_pos (by decide +kernel)]; kernel_rfl) | (rw [if_neg (by decide +kernel)]; exact ⟨rfl, rfl⟩))
    (fun os started H enc _ F => by rw [OpenClaim.pre_eq_preRow]; exact lifted os started H enc F)
theorem plain (f : FuncId) (fn : Func) (hf : Tryz.pinned.checked.prog.funcNamed "lifeline/lifelinelaw13.BatchEnds" = some f) (hfn : Tryz.pinned.checked.prog.funcs[f]? = some fn) :
    true = Tryz.pinned.checked.prog.looks [] ∧ ∀ (j : Nat) t, fn.params[j]? = some t → Tryz.pinned.checked.prog.wantsStandIn t = false := by
  obtain rfl : f = 8 := Option.some.inj ((show Tryz.prog.funcNamed "lifeline/lifelinelaw13.BatchEnds" = some 8 by kernel_rfl).symm.trans hf) |>.symm
  obtain rfl : fn = Tryz.f8 := (Option.some.inj (Tryz.func8.symm.trans hfn)).symm
  refine ⟨by kernel_rfl, fun j t ht => ?_⟩
  rw [Tryz.params8] at ht
  have hall : ∀ t ∈ [23, 24, 25], Tryz.prog.wantsStandIn t = false := by
    intro t ht
    simp only [List.mem_cons, List.mem_nil_iff, or_false] at ht
    rcases ht with rfl | rfl | rfl <;> kernel_rfl
  exact hall t (by simpa using Array.mem_of_getElem? ht)
theorem proved : Rows.BatchEndsCardSaid :=
  Claim7.holds_tied_plain_at .later [] _ _ _ _ over (fun _ h => by cases h) (by kernel_rfl) (fun _ h => by cases h) batchEnds_row_tie rfl ⟨rfl, rfl⟩ (by kernel_rfl) rfl plain (by kernel_rfl)
#print axioms proved
end Go.Proofs.YthmhappejchilaaGreatDoor.batchEnds
