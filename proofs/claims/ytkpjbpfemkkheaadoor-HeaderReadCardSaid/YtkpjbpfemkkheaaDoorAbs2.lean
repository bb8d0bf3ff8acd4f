/- strings.Index, Cut, Split, TrimRight at one byte, by the library's shelf (over Ab21). -/
import Derived.Test.YtkpjbpfemkkheaaDoorAbz
import Derived.Test.YtkpjbpfemkkheaaDoorAbi1
import Derived.Test.YtkpjbpfemkkheaaDoorAbs1
import Derived.Test.YtkpjbpfemkkheaaDoorShelf
set_option linter.unusedVariables false
set_option linter.unusedSimpArgs false
namespace Go.Proofs.YtkpjbpfemkkheaaDoor.Ab
open Go Go.RowKit
set_option maxHeartbeats 1000000
set_option maxRecDepth 100000

/-- A library's function that hands back a new slice of plain values. -/
theorem c_callsS {P : Program} {w0 : World} {m : Mem} {f : FuncId} {args cs : List Value} {e : TypeId} {Q : Value → Mem → Prop} (hcall : callOk P f = true) (ha : args.all (plainV 6) = true) (hcs : cs.all (plainV 6) = true) (hl : cs.length ≤ maxLen)
    (h : ∀ (G : Loc) (w : World), St P w0 G m w → Calls P f args.toArray w fun ev w' => ev = .returned (.slice (some ⟨w.heap.size, 0, none⟩) cs.length cs.length) ∧ w' = w.alloc (.cells ⟨cs⟩ e))
    (hq : Q (.slice (some ⟨m.next, 0, none⟩) cs.length 1) (m.push (.own cs e))) : AbC P w0 f args m Q := by
  intro G w args' hs hargs
  have ha' : ∀ u ∈ args, plainV 6 u = true := by simpa [List.all_eq_true] using ha
  have he : args' = args := VRs.plain_eq hargs fun u hu u' hr => VR.plain_eq 6 u u' (ha' u hu) hr
  subst he
  rw [run_callFunc_enter hcall]
  show Calls _ _ _ _ _
  refine (h G w hs).mono ?_
  rintro ev w' ⟨rfl, rfl⟩
  have hcs' : VRs G cs cs := by
    rw [List.all_eq_true] at hcs
    exact VRs.refl_of _ fun u hu => VR.plain 6 u (hcs u hu)
  have hn := own_new hs (e := e) (cs' := cs) (extra := []) (0, 0) (open00 _) hcs'
  refine ⟨_, rfl, _, _, _, hn.1, ?_, by simpa using hn.2, hq⟩
  exact .sl _ _ _ _ ((cs ++ []).length) _ _ _ (by simp) (Nat.le_refl _) hl (by simp)

def bchr (c : UInt8) : ByteArray := ⟨#[c]⟩
theorem c_sIndex1 {w0 : World} {m : Mem} {s : ByteArray} {c : UInt8} {Q : Value → Mem → Prop} (hq : Q (.int .i64 (Lib.indexByte s.data.toList c)) m) : AbC Tryd.prog w0 49 [.string s, .string (bchr c)] m Q :=
  c_calls (by kernel_rfl) rfl rfl (fun G w hst => (Tryd.strings_Index_one s c w).mono (by rintro e w' ⟨rfl, rfl⟩; exact ⟨rfl, Below.refl _ _⟩)) hq
theorem c_lIndex1 {w0 : World} {m : Mem} {s : ByteArray} {c : UInt8} {Q : Value → Mem → Prop} (hq : Q (.int .i64 (Lib.indexByte s.data.toList c)) m) : AbC Tryd.prog w0 46 [.string s, .string (bchr c)] m Q :=
  c_calls (by kernel_rfl) rfl rfl (fun G w hst => (Tryd.stringslite_Index_one s c w).mono (by rintro e w' ⟨rfl, rfl⟩; exact ⟨rfl, Below.refl _ _⟩)) hq
theorem c_TrimR {w0 : World} {m : Mem} {s : ByteArray} {c : UInt8} {Q : Value → Mem → Prop} (hc : c.toNat < 128) (hs : s.size ≤ 9223372036854775807) (hq : Q (.string ⟨⟨Lib.trimRightB s.data.toList c⟩⟩) m) : AbC Tryd.prog w0 25 [.string s, .string (bchr c)] m Q :=
  c_calls (by kernel_rfl) rfl rfl (fun G w hst => (Tryd.strings_TrimRight_one s c hc w hs).mono (by rintro e w' ⟨rfl, rfl⟩; exact ⟨rfl, Below.refl _ _⟩)) hq

/-- strings.Cut at one byte. -/
theorem c_lCut {w0 : World} {m : Mem} {s : ByteArray} {c : UInt8} {Q : Value → Mem → Prop} (hs : s.size ≤ 9223372036854775807) (h0 : c ∉ s.data.toList → Q (.tuple ⟨[.string s, .string ⟨#[]⟩, .bool false]⟩) m)
    (h1 : ∀ a r, s.data.toList = a ++ c :: r → c ∉ a → Q (.tuple ⟨[.string ⟨⟨a⟩⟩, .string ⟨⟨r⟩⟩, .bool true]⟩) m) : AbC Tryd.prog w0 33 [.string s, .string (bchr c)] m Q := by
  refine AbC_fn ok33 (by simp) ?_
  simp -implicitDefEqProofs (disch := first | assumption | (simp only [wnA]; done) | (simp only [wnA]; omega) | omega | fail) [rc33, ro33, wkA, retV, stabOk, dC, ev, fillD, pickCells, putAt, bnd, slD, List.getElem?_cons_zero, List.getElem?_cons_succ, dR_sl, Mem.cell, Mem.row, wmA]
  refine c_lIndex1 ?_
  have hsz : (bchr c).size = 1 := rfl
  rcases ixB_cases c s.data.toList with ⟨e1, e2⟩ | ⟨a, r, e1, e2, e3⟩
  · rw [e1]
    simp -implicitDefEqProofs (disch := first | assumption | (simp only [wnA]; done) | (simp only [wnA]; omega) | omega | fail) [wkA, retV, stabOk, dC, ev, fillD, pickCells, putAt, bnd, slD, List.getElem?_cons_zero, List.getElem?_cons_succ, dR_sl, Mem.cell, Mem.row, wmA, rc33_0]
    exact h0 e2
  · rw [e3]
    have hl : s.data.toList.length = s.size := by simp
    have hl2 := congrArg List.length e1
    rw [hl] at hl2
    simp only [List.length_append, List.length_cons] at hl2
    have w1 : IntKind.i64.wrap ((a.length : Int) + 1) = ((a.length + 1 : Nat) : Int) := by rw [w64 (by omega)]; omega
    have x1 : s.extract 0 a.length = ⟨⟨a⟩⟩ := by
      apply ByteArray.ext
      apply Array.toList_inj.1
      rw [Lib.extract_from_zero, e1]
      simp
    have x2 : s.extract (a.length + 1) s.size = ⟨⟨r⟩⟩ := by
      rw [Lib.extract_eq, e1]
      have h1 : (a ++ c :: r).drop (a.length + 1) = r := by
        rw [show a.length + 1 = (a ++ [c]).length from by simp, show a ++ c :: r = (a ++ [c]) ++ r from by simp, List.drop_left]
      rw [h1, List.take_of_length_le (by omega)]
    have f1 : (a.length : Int) ≤ (s.size : Int) := by omega
    have f2 : a.length ≤ s.size := by omega
    have f3 : (a.length : Int) + 1 ≤ (s.size : Int) := by omega
    have f4 : a.length + 1 ≤ s.size := by omega
    have f5 : (0 : Int) ≤ (a.length : Int) + 1 := by omega
    simp -implicitDefEqProofs (disch := first | assumption | (simp only [wnA]; done) | (simp only [wnA]; omega) | omega | fail) [wkA, retV, stabOk, dC, ev, fillD, pickCells, putAt, bnd, slD, List.getElem?_cons_zero, List.getElem?_cons_succ, dR_sl, Mem.cell, Mem.row, wmA, w1, hsz, f1, f2, f3, f4, f5, x1, x2]
    exact h1 a r e1 e2
theorem c_Cut {w0 : World} {m : Mem} {s : ByteArray} {c : UInt8} {Q : Value → Mem → Prop} (hs : s.size ≤ 9223372036854775807) (h0 : c ∉ s.data.toList → Q (.tuple ⟨[.string s, .string ⟨#[]⟩, .bool false]⟩) m)
    (h1 : ∀ a r, s.data.toList = a ++ c :: r → c ∉ a → Q (.tuple ⟨[.string ⟨⟨a⟩⟩, .string ⟨⟨r⟩⟩, .bool true]⟩) m) : AbC Tryd.prog w0 23 [.string s, .string (bchr c)] m Q := by
  refine AbC_fn ok23 (by simp) ?_
  simp -implicitDefEqProofs (disch := first | assumption | (simp only [wnA]; done) | (simp only [wnA]; omega) | omega | fail) [rc23, ro23, wkA, retV, stabOk, dC, ev, fillD, pickCells, putAt, bnd, slD, List.getElem?_cons_zero, List.getElem?_cons_succ, dR_sl, Mem.cell, Mem.row, wmA]
  refine c_lCut hs (fun h => ?_) fun a r e h => ?_
  · simp -implicitDefEqProofs (disch := first | assumption | (simp only [wnA]; done) | (simp only [wnA]; omega) | omega | fail) [wkA, retV, stabOk, dC, ev, fillD, pickCells, putAt, bnd, slD, List.getElem?_cons_zero, List.getElem?_cons_succ, dR_sl, Mem.cell, Mem.row, wmA]
    exact h0 h
  · simp -implicitDefEqProofs (disch := first | assumption | (simp only [wnA]; done) | (simp only [wnA]; omega) | omega | fail) [wkA, retV, stabOk, dC, ev, fillD, pickCells, putAt, bnd, slD, List.getElem?_cons_zero, List.getElem?_cons_succ, dR_sl, Mem.cell, Mem.row, wmA]
    exact h1 a r e h

/-- The words of a text that is split at a byte. -/
def words (c : UInt8) (l : List UInt8) : List (List UInt8) := Lib.splitK [c] 0 (l.count c) l
theorem splitB_words (c : UInt8) (s : ByteArray) : Lib.splitB (bchr c) 0 (Lib.countB s (bchr c)) s = (words c s.data.toList).map fun l => ⟨⟨l⟩⟩ := by
  have h := Lib.splitB_data (bchr c) 0 (Lib.countB s (bchr c)) s
  have hc : Lib.countB s (bchr c) = s.data.toList.count c := Lib.count_one c _
  have h2 := congrArg (List.map fun l : List UInt8 => (⟨⟨l⟩⟩ : ByteArray)) h
  rw [List.map_map] at h2
  have h3 : ((fun l : List UInt8 => (⟨⟨l⟩⟩ : ByteArray)) ∘ fun x : ByteArray => x.data.toList) = id := by funext x; rfl
  rw [h3, List.map_id] at h2
  rw [h2, hc]
  rfl
theorem c_genSplit {w0 : World} {m : Mem} {s : ByteArray} {c : UInt8} {Q : Value → Mem → Prop} (hs : s.size < 4294967281)
    (hq : Q (.slice (some ⟨m.next, 0, none⟩) (words c s.data.toList).length 1) (m.push (.own ((words c s.data.toList).map fun l => .string ⟨⟨l⟩⟩) 9))) : AbC Tryd.prog w0 34 [.string s, .string (bchr c), .int .i64 0, .int .i64 (-1)] m Q := by
  have hcnt : Lib.countB s (bchr c) = s.data.toList.count c := Lib.count_one c _
  have hle : Lib.countB s (bchr c) ≤ s.size := by
    rw [hcnt]
    have := List.count_le_length (a := c) (l := s.data.toList)
    simpa using this
  have hlen := Lib.splitB_all (bchr c) (Nat.le_refl 1) 0 _ s rfl
  have hw := splitB_words c s
  have hcl : ((words c s.data.toList).map fun l => Value.string ⟨⟨l⟩⟩).length = Lib.countB s (bchr c) + 1 := by
    rw [← hlen, hw]; simp
  refine c_callsS (cs := (words c s.data.toList).map fun l => .string ⟨⟨l⟩⟩) (e := 9) (by kernel_rfl) rfl (by rw [List.all_eq_true]; intro u hu; obtain ⟨l, -, rfl⟩ := List.mem_map.1 hu; rfl) (by rw [hcl]; unfold maxLen; omega) (fun G w hst => ?_) (by simpa using hq)
  have h := Any.strings_genSplit_core Tryd.lays221 (by kernel_rfl) s (bchr c) 0 (-1) (Lib.countB s (bchr c) + 1) w hs (Nat.le_refl 1) (Nat.zero_le _)
    (fun x cc _ => by
      have := Tryd.strings_Index_one x c (w.alloc (.cells cc (Tryd.lays221_ren.t 9)))
      rw [← Lib.index_one] at this
      exact this)
    (by
      have := Tryd.strings_Count_one s c w
      rw [show (Lib.countByte s.data.toList c : Nat) = Lib.countB s (bchr c) from hcnt.symm] at this
      exact this) (by decide) (by decide) (by rw [if_pos (by decide)]; omega)
  refine h.mono ?_
  rintro e w' ⟨rfl, rfl⟩
  rw [Nat.add_sub_cancel, hlen, hcl]
  refine ⟨rfl, ?_⟩
  have e2 : Lib.cellsOf (Lib.splitB (bchr c) 0 (Lib.countB s (bchr c)) s) (Lib.countB s (bchr c) + 1) = ((Lib.splitB (bchr c) 0 (Lib.countB s (bchr c)) s).map Value.string).toArray := by rw [← hlen]; exact Lib.cellsOf_full _
  rw [e2, hw, List.map_map]
  rfl
theorem c_Split {w0 : World} {m : Mem} {s : ByteArray} {c : UInt8} {Q : Value → Mem → Prop} (hs : s.size < 4294967281)
    (hq : Q (.slice (some ⟨m.next, 0, none⟩) (words c s.data.toList).length 1) (m.push (.own ((words c s.data.toList).map fun l => .string ⟨⟨l⟩⟩) 9))) : AbC Tryd.prog w0 24 [.string s, .string (bchr c)] m Q := by
  refine AbC_fn ok24 (by simp) ?_
  simp -implicitDefEqProofs (disch := first | assumption | (simp only [wnA]; done) | (simp only [wnA]; omega) | omega | fail) [rc24, ro24, wkA, retV, stabOk, dC, ev, fillD, pickCells, putAt, bnd, slD, List.getElem?_cons_zero, List.getElem?_cons_succ, dR_sl, Mem.cell, Mem.row, wmA]
  refine c_genSplit hs ?_
  simp -implicitDefEqProofs (disch := first | assumption | (simp only [wnA]; done) | (simp only [wnA]; omega) | omega | fail) [wkA, retV, stabOk, dC, ev, fillD, pickCells, putAt, bnd, slD, List.getElem?_cons_zero, List.getElem?_cons_succ, dR_sl, Mem.cell, Mem.row, wmA]
  exact hq
end Go.Proofs.YtkpjbpfemkkheaaDoor.Ab
