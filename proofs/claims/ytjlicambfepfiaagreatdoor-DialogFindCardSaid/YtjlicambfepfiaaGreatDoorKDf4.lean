/- The law DialogFind, as its statement says it: for every input; the listed variables hold what the program's text lays. -/
import Derived.Test.YtjlicambfepfiaaGreatDoorKDf3
import Derived.Test.YtjlicambfepfiaaGreatDoorProg
import Derived.WalkKit
import Derived.LaidEql
import Derived.Stop.Asserts
import Derived.RowKitTokens
import Derived.KernelRfl
import Derived.Test.YtjlicambfepfiaaGreatDoorCards
import Derived.Test.YtjlicambfepfiaaGreatDoorTie
import Derived.ProofKit
import Derived.OpenShut
import Derived.JoinedCond
import Derived.ChangeOld
import Derived.Deep.DeepHandedRow
import Derived.Deep.DeepWitnessRowRef
set_option linter.unusedVariables false
set_option linter.unusedSimpArgs false
namespace Go.Proofs.YtjlicambfepfiaaGreatDoor.Ab
open Go Go.RowKit
set_option maxHeartbeats 4000000
set_option maxRecDepth 100000
/-- One more text of numbers. -/
def BuildOk (d : Nat) : Prop := ∀ (w0 : World) (m : Mem) (v : Value) (ns : List UInt8) (Q : Value → Mem → Prop), SlR m 1 v (ns.map byteV) ns.length → (∀ b, blk v = some b → b < m.next) → ns.length ≤ maxLen → BuildQ m v ns (Bd d) Q → AbC Tryz.prog w0 46 [v, .int .i64 (d : Nat)] m Q
/-- What the walk knows behind the numbers' first. -/
structure BS (m m1 : Mem) (v v' : Value) (ns ns' : List UInt8) : Prop where
  o : Old m m1
  n : m.next < m1.next
  g : m1.get m.next = .own nod0 76
  sv : SlR m1 1 v' (ns'.map byteV) ns'.length
  b : ∀ b, blk v' = some b → blk v = some b
  b2 : ∀ b, blk v = some b → b < m.next
  l : ns'.length ≤ ns.length
theorem BS.old {m m1 m2 : Mem} {v v' : Value} {ns ns' : List UInt8} (h : BS m m1 v v' ns ns') (o : Old m1 m2) : BS m m2 v v' ns ns' :=
  ⟨h.o.trans o, Nat.lt_of_lt_of_le h.n o.1, (o.2 _ h.n).trans h.g, h.sv.keep fun b hb => o.2 b (by have := h.b2 b (h.b b hb); have := h.n; omega), h.b, h.b2, h.l⟩
theorem BS.ret {m m1 : Mem} {v v' : Value} {ns ns' : List UInt8} (h : BS m m1 v v' ns ns') {B : Nat} {Q : Value → Mem → Prop} {fr : Fr} {t : List UInt8} {k a b c d : Int} {s : Value} (hq : BuildQ m v ns B Q) (ht : SafeL t) (hl : t.length ≤ B) (hs : oneC s = true ∧ cellsV s = [s])
    (e4 : fr 4 = .string ⟨⟨t⟩⟩) (e5 : fr 5 = .pointer (some ⟨m.next, 0, none⟩)) (e6 : fr 6 = v') : BodQ Q .ret fr (m1.set m.next (.own (nodC k a b c d s) 76)) :=
  bod_ret (i := m.next) (ns' := ns') hq (h.o.set (Nat.le_refl _) _) ht hl e4 e5 e6 (by rw [Mem.set_same]) hs (h.sv.keep fun b hb => by rw [Mem.set_other _ _ (by have := h.b2 b (h.b b hb); omega)]) h.b h.l
theorem c_buildS {d : Nat} (hd : d ≤ 2) (IH : BuildOk d) : BuildOk (d + 1) := by
  intro w0 m v ns Q hv hvb hl hq
  refine AbC_fn ok46 (by simp) ?_
  show AbW _ _ _ (BodQ Q) _ _
  have hBd : Bd d ≤ 40 := by
    rcases (show d = 0 ∨ d = 1 ∨ d = 2 by omega) with rfl | rfl | rfl <;> decide
  have hBd6 : 6 ≤ Bd d := by
    rcases (show d = 0 ∨ d = 1 ∨ d = 2 by omega) with rfl | rfl | rfl <;> decide
  have hB1 : Bd (d + 1) = 2 * Bd d + 5 := rfl
  obtain ⟨m1, hm1⟩ : ∃ m1, m.push (.own nod0 76) = m1 := ⟨_, rfl⟩
  have o1 : Old m m1 := by subst hm1; exact (Old.refl m).push _
  have g1 : m1.get m.next = .own nod0 76 := by subst hm1; rw [Mem.push_same]
  have n1 : m.next < m1.next := by subst hm1; simp
  have hm1' : m.push (.own [.int .i64 0, .int .u64 0, .int .u64 0, .int .u64 0, .int .u64 0, .slice none 0 0] 76) = m1 := hm1
  cases ns with
  | nil =>
    have hsl := hv.slen
    simp only [List.length_nil] at hsl
    simp -implicitDefEqProofs (disch := first | assumption | (simp only [wnA]; done) | (simp only [wnA]; omega) | omega | fail) [rc46, wkA, retV, stabOk, dC, ev, fillD, pickCells, putAt, bnd, slD, List.getElem?_cons_zero, List.getElem?_cons_succ, dR_sl, Mem.cell, Mem.row, wmA, hsl, hm1']
    refine c_byteNode (.inl rfl) fun m2 nd o2 hn => ?_
    obtain ⟨k, a, b, c, d, s, rfl, hs1, hs2⟩ := hn
    have g2 := (o2.2 _ n1).trans g1
    simp -implicitDefEqProofs (disch := first | assumption | (simp only [wnA]; done) | (simp only [wnA]; omega) | omega | fail) [wkA, retV, stabOk, dC, ev, fillD, pickCells, putAt, bnd, slD, List.getElem?_cons_zero, List.getElem?_cons_succ, dR_sl, Mem.cell, Mem.row, wmA]
    refine SK_stv (i := m.next) (o := 0) (vs := nodC k a b c d s) (cs := nod0) (e := 76) (by simp [wkA, retV, stabOk, dC, ev, fillD, pickCells, putAt, bnd, slD, List.getElem?_cons_zero, List.getElem?_cons_succ, dR_sl]) g2 (by simp [wkA, retV, stabOk, dC, ev, fillD, pickCells, putAt, bnd, slD, List.getElem?_cons_zero, List.getElem?_cons_succ, dR_sl]) (by simp [nod0]) rfl (by simp only [nodC, List.all_cons, List.all_nil, hs1]; rfl) ?_
    simp -implicitDefEqProofs (disch := first | assumption | (simp only [wnA]; done) | (simp only [wnA]; omega) | omega | fail) [wkA, retV, stabOk, dC, ev, fillD, pickCells, putAt, bnd, slD, List.getElem?_cons_zero, List.getElem?_cons_succ, dR_sl, Mem.cell, Mem.row, wmA]
    refine bod_ret (i := m.next) (ns' := []) hq ((o1.trans o2).set (Nat.le_refl _) _) (t := [97]) (SafeL.cons (by decide) (fun x hx => by cases hx)) (by simp; omega) (by simp) (by simp) (v' := .slice none 0 0) (by simp) (by rw [Mem.set_same]; rfl) ⟨hs1, hs2⟩ ⟨rfl, .inl ⟨rfl, .inl rfl⟩⟩ (fun b hb => by cases hb) (Nat.le_refl _)
  | cons x ns =>
    have hsl := hv.slen
    obtain ⟨bi, bo, L, hvv, hL, hLl, -, hLc⟩ := hv.at (j := 0) (by simp)
    have hc := hLc 0 (by omega)
    obtain ⟨v', sl1, sv', sb'⟩ := hv.behind (k := 1) (by simp)
    simp only [List.map_cons, List.length_cons, Nat.zero_mul, Nat.add_zero, List.getElem?_cons_zero] at hc hvv hsl
    have hs0 : sidx 1 v (.int .i64 0) = some (.pointer (some ⟨bi, bo, none⟩)) := by
      have := sidx_at (b := bi) (o := bo) (n := ns.length + 1) (c := 1) (j := 0) (sz := 1) (k := .i64) (by omega)
      simpa [hvv] using this
    have sl2 : slW 1 v (some (.int .i64 1)) none = some v' := by simpa using sl1
    have sv2 : SlR m 1 v' (ns.map byteV) ns.length := by simpa using sv'
    have hbi : bi < m.next := hvb bi (by rw [hvv]; rfl)
    have hL1 : (m1.get bi).cells? = some L := by rw [o1.2 bi hbi]; exact hL
    have hne : ((ns.length : Int) + 1 == 0) = false := beqF (by omega)
    have hcb : L[bo]? = some (.int .u8 (x.toNat : Int)) := hc
    have hbs : BS m m1 v v' (x :: ns) ns := ⟨o1, n1, g1, sv2.keep fun b hb => o1.2 b (hvb b (sb' b hb)), sb', hvb, by simp⟩
    have hd0 : ¬ ((d : Int) + 1 ≤ 0) := by omega
    have r1 := rem_u8 (k := x.toNat) (b := 9) (by omega)
    have hx9 : x.toNat % 9 < 9 := Nat.mod_lt _ (by omega)
    generalize x.toNat % 9 = r at *
    have r1 : dBin .rem (.int .u8 (x.toNat : Int)) (.int .u8 9) = some (.int .u8 (r : Int)) := r1
    have hdd : IntKind.i64.wrap (d : Int) = (d : Int) := w64 (by omega)
    simp -implicitDefEqProofs (disch := first | assumption | (simp only [wnA]; done) | (simp only [wnA]; omega) | omega | fail) [rc46, rc46_18, rc46_17, wkA, retV, stabOk, dC, ev, fillD, pickCells, putAt, bnd, slD, List.getElem?_cons_zero, List.getElem?_cons_succ, dR_sl, Mem.cell, Mem.row, wmA, hsl, hm1', hne, hs0, hL1, hcb, getL hcb, sl2, r1, hd0]
    rcases (show r = 0 ∨ r = 1 ∨ r = 2 ∨ r = 3 ∨ r = 4 ∨ r = 5 ∨ r = 6 ∨ r = 7 ∨ r = 8 by omega) with rfl | rfl | rfl | rfl | rfl | rfl | rfl | rfl | rfl
    · simp -implicitDefEqProofs (disch := first | assumption | (simp only [wnA]; done) | (simp only [wnA]; omega) | omega | fail) [rc46_15, rc46_14, wkA, retV, stabOk, dC, ev, fillD, pickCells, putAt, bnd, slD, List.getElem?_cons_zero, List.getElem?_cons_succ, dR_sl, Mem.cell, Mem.row, wmA, hdd]
      refine IH w0 m1 v' ns _ hbs.sv (fun b hb => by have := hvb b (sb' b hb); omega) (by have : (x :: ns).length ≤ maxLen := hl; simp at this; omega) ?_
      intro m2 t nd v2 ns2 o2 ht htl hnd sv2' sb2 hn2
      obtain ⟨k, a, b, c, e, s, rfl, hs1, hs2⟩ := hnd
      have hbs2 : BS m m2 v v2 (x :: ns) ns2 := ⟨o1.trans o2, Nat.lt_of_lt_of_le n1 o2.1, (o2.2 _ n1).trans g1, sv2', fun b hb => sb' b (sb2 b hb), hvb, by simp; omega⟩
      simp -implicitDefEqProofs (disch := first | assumption | (simp only [wnA]; done) | (simp only [wnA]; omega) | omega | fail) [wkA, retV, stabOk, dC, ev, fillD, pickCells, putAt, bnd, slD, List.getElem?_cons_zero, List.getElem?_cons_succ, dR_sl, Mem.cell, Mem.row, wmA]
      obtain ⟨M3, hM3⟩ : ∃ M, (m2.push (.own nod0 76)).set m2.next (.own (nodC k a b c e s) 76) = M := ⟨_, rfl⟩
      refine SK_stm (i := m2.next) (o := 0) (vs := nodC k a b c e s) (cs := nod0) (e := 76) (M := M3) (by simp [wkA, retV, stabOk, dC, ev, fillD, pickCells, putAt, bnd, slD, List.getElem?_cons_zero, List.getElem?_cons_succ, dR_sl]) (by simp -implicitDefEqProofs (disch := first | assumption | (simp only [wnA]; done) | (simp only [wnA]; omega) | omega | fail) [wkA, retV, stabOk, dC, ev, fillD, pickCells, putAt, bnd, slD, List.getElem?_cons_zero, List.getElem?_cons_succ, dR_sl, Mem.cell, Mem.row, wmA, nod0]) (by simp [wkA, retV, stabOk, dC, ev, fillD, pickCells, putAt, bnd, slD, List.getElem?_cons_zero, List.getElem?_cons_succ, dR_sl]) (by simp [nod0]) rfl (by simp only [nodC, List.all_cons, List.all_nil, hs1]; rfl) hM3 ?_
      have o3 : Old m2 M3 := by subst hM3; exact ((Old.refl m2).push _).set (Nat.le_refl _) _
      have g3 : M3.get m2.next = .own (nodC k a b c e s) 76 := by subst hM3; rw [Mem.set_same]
      have hlt3 : m2.next + 1 ≤ M3.next := by subst hM3; simp
      clear hM3
      have hbs3 := hbs2.old o3
      simp -implicitDefEqProofs (disch := first | assumption | (simp only [wnA]; done) | (simp only [wnA]; omega) | omega | fail) [wkA, retV, stabOk, dC, ev, fillD, pickCells, putAt, bnd, slD, List.getElem?_cons_zero, List.getElem?_cons_succ, dR_sl, Mem.cell, Mem.row, wmA, hdd]
      refine IH w0 M3 v2 ns2 _ hbs3.sv (fun b hb => by have := hvb b (hbs3.b b hb); have := hbs3.n; omega) (by have : (x :: ns).length ≤ maxLen := hl; simp at this; omega) ?_
      intro m4 t2 nd2 v4 ns4 o4 ht2 htl2 hnd2 sv4' sb4 hn4
      obtain ⟨k2, a2, b2, c2, e2, s2, rfl, hs3, hs4⟩ := hnd2
      have hbs4 : BS m m4 v v4 (x :: ns) ns4 := ⟨hbs3.o.trans o4, Nat.lt_of_lt_of_le hbs3.n o4.1, (o4.2 _ hbs3.n).trans hbs3.g, sv4', fun b hb => hbs3.b b (sb4 b hb), hvb, by simp; omega⟩
      have n3 : m2.next < M3.next := Nat.lt_of_lt_of_le (Nat.lt_succ_self _) hlt3
      have g4 := (o4.2 _ n3).trans g3
      have n4 : m2.next < m4.next := Nat.lt_of_lt_of_le n3 o4.1
      simp -implicitDefEqProofs (disch := first | assumption | (simp only [wnA]; done) | (simp only [wnA]; omega) | omega | fail) [wkA, retV, stabOk, dC, ev, fillD, pickCells, putAt, bnd, slD, List.getElem?_cons_zero, List.getElem?_cons_succ, dR_sl, Mem.cell, Mem.row, wmA]
      obtain ⟨M5, hM5⟩ : ∃ M, (m4.push (.own nod0 76)).set m4.next (.own (nodC k2 a2 b2 c2 e2 s2) 76) = M := ⟨_, rfl⟩
      refine SK_stm (i := m4.next) (o := 0) (vs := nodC k2 a2 b2 c2 e2 s2) (cs := nod0) (e := 76) (M := M5) (by simp [wkA, retV, stabOk, dC, ev, fillD, pickCells, putAt, bnd, slD, List.getElem?_cons_zero, List.getElem?_cons_succ, dR_sl]) (by simp -implicitDefEqProofs (disch := first | assumption | (simp only [wnA]; done) | (simp only [wnA]; omega) | omega | fail) [wkA, retV, stabOk, dC, ev, fillD, pickCells, putAt, bnd, slD, List.getElem?_cons_zero, List.getElem?_cons_succ, dR_sl, Mem.cell, Mem.row, wmA, nod0]) (by simp [wkA, retV, stabOk, dC, ev, fillD, pickCells, putAt, bnd, slD, List.getElem?_cons_zero, List.getElem?_cons_succ, dR_sl]) (by simp [nod0]) rfl (by simp only [nodC, List.all_cons, List.all_nil, hs3]; rfl) hM5 ?_
      have o5 : Old m4 M5 := by subst hM5; exact ((Old.refl m4).push _).set (Nat.le_refl _) _
      have g5 : M5.get m4.next = .own (nodC k2 a2 b2 c2 e2 s2) 76 := by subst hM5; rw [Mem.set_same]
      have g5' := (o5.2 _ n4).trans g4
      have hlt5 : m4.next + 1 ≤ M5.next := by subst hM5; simp
      clear hM5
      have hbs5 := hbs4.old o5
      simp -implicitDefEqProofs (disch := first | assumption | (simp only [wnA]; done) | (simp only [wnA]; omega) | omega | fail) [wkA, retV, stabOk, dC, ev, fillD, pickCells, putAt, bnd, slD, List.getElem?_cons_zero, List.getElem?_cons_succ, dR_sl, Mem.cell, Mem.row, wmA]
      refine AbW_sem_of ?_
      simp only [nodC] at g5 g5'
      simp -implicitDefEqProofs (disch := first | assumption | (simp only [wnA]; done) | (simp only [wnA]; omega) | omega | (simp only [List.length_append, List.length_cons, List.length_nil]; omega) | fail) [rc46_2, rc46_3, wkA, retV, stabOk, dC, ev, fillD, pickCells, putAt, bnd, slD, List.getElem?_cons_zero, List.getElem?_cons_succ, dR_sl, Mem.cell, Mem.row, wmA, g5, g5', cat2]
      constructor
      all_goals
        rw [SK_bsl (cs := nodC k a b c e s ++ nodC k2 a2 b2 c2 e2 s2) (by simp [wkA, retV, stabOk, dC, ev, fillD, pickCells, putAt, bnd, slD, List.getElem?_cons_zero, List.getElem?_cons_succ, dR_sl, nodC]) (by simp [nodC])]
        obtain ⟨M6, hM6⟩ : ∃ M, M5.push (.own (nodC k a b c e s ++ nodC k2 a2 b2 c2 e2 s2) 76) = M := ⟨_, rfl⟩
        have o6 : Old M5 M6 := by subst hM6; exact (Old.refl M5).push _
        have n5 : m4.next < M5.next := Nat.lt_of_lt_of_le (Nat.lt_succ_self _) hlt5
        have g6 := (o6.2 _ n5).trans g5
        have g6' := (o6.2 _ (Nat.lt_of_lt_of_le n4 o5.1)).trans g5'
        rw [hM6]
        have hbs6 := hbs5.old o6
        simp -implicitDefEqProofs (disch := first | assumption | (simp only [wnA]; done) | (simp only [wnA]; omega) | omega | (simp only [List.length_append, List.length_cons, List.length_nil]; omega) | fail) [wkA, retV, stabOk, dC, ev, fillD, pickCells, putAt, bnd, slD, List.getElem?_cons_zero, List.getElem?_cons_succ, dR_sl, Mem.cell, Mem.row, wmA, g6, g6', cat2]
        refine SK_stv (i := m.next) (o := 0) (vs := nodC 2 0 0 0 0 (.slice (some ⟨M5.next, 0, none⟩) 2 6)) (cs := nod0) (e := 76) (by simp [wkA, retV, stabOk, dC, ev, fillD, pickCells, putAt, bnd, slD, List.getElem?_cons_zero, List.getElem?_cons_succ, dR_sl]) hbs6.g (by simp [wkA, retV, stabOk, dC, ev, fillD, pickCells, putAt, bnd, slD, List.getElem?_cons_zero, List.getElem?_cons_succ, dR_sl, nodC]) (by simp [nod0]) rfl rfl ?_
        simp -implicitDefEqProofs (disch := first | assumption | (simp only [wnA]; done) | (simp only [wnA]; omega) | omega | (simp only [List.length_append, List.length_cons, List.length_nil]; omega) | fail) [wkA, retV, stabOk, dC, ev, fillD, pickCells, putAt, bnd, slD, List.getElem?_cons_zero, List.getElem?_cons_succ, dR_sl, Mem.cell, Mem.row, wmA]
        exact hbs6.ret (t := 40 :: (t ++ ([41, 40] ++ (t2 ++ [41])))) hq (SafeL.cons (by decide) (ht.app (SafeL.app (SafeL.cons (by decide) (SafeL.cons (by decide) (fun x hx => by cases hx))) (ht2.app (SafeL.cons (by decide) (fun x hx => by cases hx)))))) (by simp; omega) ⟨rfl, rfl⟩ (by simp) (by simp) (by simp)
    · simp -implicitDefEqProofs (disch := first | assumption | (simp only [wnA]; done) | (simp only [wnA]; omega) | omega | fail) [rc46_15, rc46_14, wkA, retV, stabOk, dC, ev, fillD, pickCells, putAt, bnd, slD, List.getElem?_cons_zero, List.getElem?_cons_succ, dR_sl, Mem.cell, Mem.row, wmA, hdd]
      refine IH w0 m1 v' ns _ hbs.sv (fun b hb => by have := hvb b (sb' b hb); omega) (by have : (x :: ns).length ≤ maxLen := hl; simp at this; omega) ?_
      intro m2 t nd v2 ns2 o2 ht htl hnd sv2' sb2 hn2
      obtain ⟨k, a, b, c, e, s, rfl, hs1, hs2⟩ := hnd
      have hbs2 : BS m m2 v v2 (x :: ns) ns2 := ⟨o1.trans o2, Nat.lt_of_lt_of_le n1 o2.1, (o2.2 _ n1).trans g1, sv2', fun b hb => sb' b (sb2 b hb), hvb, by simp; omega⟩
      simp -implicitDefEqProofs (disch := first | assumption | (simp only [wnA]; done) | (simp only [wnA]; omega) | omega | fail) [wkA, retV, stabOk, dC, ev, fillD, pickCells, putAt, bnd, slD, List.getElem?_cons_zero, List.getElem?_cons_succ, dR_sl, Mem.cell, Mem.row, wmA]
      obtain ⟨M3, hM3⟩ : ∃ M, (m2.push (.own nod0 76)).set m2.next (.own (nodC k a b c e s) 76) = M := ⟨_, rfl⟩
      refine SK_stm (i := m2.next) (o := 0) (vs := nodC k a b c e s) (cs := nod0) (e := 76) (M := M3) (by simp [wkA, retV, stabOk, dC, ev, fillD, pickCells, putAt, bnd, slD, List.getElem?_cons_zero, List.getElem?_cons_succ, dR_sl]) (by simp -implicitDefEqProofs (disch := first | assumption | (simp only [wnA]; done) | (simp only [wnA]; omega) | omega | fail) [wkA, retV, stabOk, dC, ev, fillD, pickCells, putAt, bnd, slD, List.getElem?_cons_zero, List.getElem?_cons_succ, dR_sl, Mem.cell, Mem.row, wmA, nod0]) (by simp [wkA, retV, stabOk, dC, ev, fillD, pickCells, putAt, bnd, slD, List.getElem?_cons_zero, List.getElem?_cons_succ, dR_sl]) (by simp [nod0]) rfl (by simp only [nodC, List.all_cons, List.all_nil, hs1]; rfl) hM3 ?_
      have o3 : Old m2 M3 := by subst hM3; exact ((Old.refl m2).push _).set (Nat.le_refl _) _
      have g3 : M3.get m2.next = .own (nodC k a b c e s) 76 := by subst hM3; rw [Mem.set_same]
      have hlt3 : m2.next + 1 ≤ M3.next := by subst hM3; simp
      clear hM3
      have hbs3 := hbs2.old o3
      simp -implicitDefEqProofs (disch := first | assumption | (simp only [wnA]; done) | (simp only [wnA]; omega) | omega | fail) [wkA, retV, stabOk, dC, ev, fillD, pickCells, putAt, bnd, slD, List.getElem?_cons_zero, List.getElem?_cons_succ, dR_sl, Mem.cell, Mem.row, wmA, hdd]
      refine IH w0 M3 v2 ns2 _ hbs3.sv (fun b hb => by have := hvb b (hbs3.b b hb); have := hbs3.n; omega) (by have : (x :: ns).length ≤ maxLen := hl; simp at this; omega) ?_
      intro m4 t2 nd2 v4 ns4 o4 ht2 htl2 hnd2 sv4' sb4 hn4
      obtain ⟨k2, a2, b2, c2, e2, s2, rfl, hs3, hs4⟩ := hnd2
      have hbs4 : BS m m4 v v4 (x :: ns) ns4 := ⟨hbs3.o.trans o4, Nat.lt_of_lt_of_le hbs3.n o4.1, (o4.2 _ hbs3.n).trans hbs3.g, sv4', fun b hb => hbs3.b b (sb4 b hb), hvb, by simp; omega⟩
      have n3 : m2.next < M3.next := Nat.lt_of_lt_of_le (Nat.lt_succ_self _) hlt3
      have g4 := (o4.2 _ n3).trans g3
      have n4 : m2.next < m4.next := Nat.lt_of_lt_of_le n3 o4.1
      simp -implicitDefEqProofs (disch := first | assumption | (simp only [wnA]; done) | (simp only [wnA]; omega) | omega | fail) [wkA, retV, stabOk, dC, ev, fillD, pickCells, putAt, bnd, slD, List.getElem?_cons_zero, List.getElem?_cons_succ, dR_sl, Mem.cell, Mem.row, wmA]
      obtain ⟨M5, hM5⟩ : ∃ M, (m4.push (.own nod0 76)).set m4.next (.own (nodC k2 a2 b2 c2 e2 s2) 76) = M := ⟨_, rfl⟩
      refine SK_stm (i := m4.next) (o := 0) (vs := nodC k2 a2 b2 c2 e2 s2) (cs := nod0) (e := 76) (M := M5) (by simp [wkA, retV, stabOk, dC, ev, fillD, pickCells, putAt, bnd, slD, List.getElem?_cons_zero, List.getElem?_cons_succ, dR_sl]) (by simp -implicitDefEqProofs (disch := first | assumption | (simp only [wnA]; done) | (simp only [wnA]; omega) | omega | fail) [wkA, retV, stabOk, dC, ev, fillD, pickCells, putAt, bnd, slD, List.getElem?_cons_zero, List.getElem?_cons_succ, dR_sl, Mem.cell, Mem.row, wmA, nod0]) (by simp [wkA, retV, stabOk, dC, ev, fillD, pickCells, putAt, bnd, slD, List.getElem?_cons_zero, List.getElem?_cons_succ, dR_sl]) (by simp [nod0]) rfl (by simp only [nodC, List.all_cons, List.all_nil, hs3]; rfl) hM5 ?_
      have o5 : Old m4 M5 := by subst hM5; exact ((Old.refl m4).push _).set (Nat.le_refl _) _
      have g5 : M5.get m4.next = .own (nodC k2 a2 b2 c2 e2 s2) 76 := by subst hM5; rw [Mem.set_same]
      have g5' := (o5.2 _ n4).trans g4
      have hlt5 : m4.next + 1 ≤ M5.next := by subst hM5; simp
      clear hM5
      have hbs5 := hbs4.old o5
      simp -implicitDefEqProofs (disch := first | assumption | (simp only [wnA]; done) | (simp only [wnA]; omega) | omega | fail) [wkA, retV, stabOk, dC, ev, fillD, pickCells, putAt, bnd, slD, List.getElem?_cons_zero, List.getElem?_cons_succ, dR_sl, Mem.cell, Mem.row, wmA]
      refine AbW_sem_of ?_
      simp only [nodC] at g5 g5'
      simp -implicitDefEqProofs (disch := first | assumption | (simp only [wnA]; done) | (simp only [wnA]; omega) | omega | (simp only [List.length_append, List.length_cons, List.length_nil]; omega) | fail) [rc46_2, rc46_3, wkA, retV, stabOk, dC, ev, fillD, pickCells, putAt, bnd, slD, List.getElem?_cons_zero, List.getElem?_cons_succ, dR_sl, Mem.cell, Mem.row, wmA, g5, g5', cat2]
      constructor
      all_goals
        rw [SK_bsl (cs := nodC k a b c e s ++ nodC k2 a2 b2 c2 e2 s2) (by simp [wkA, retV, stabOk, dC, ev, fillD, pickCells, putAt, bnd, slD, List.getElem?_cons_zero, List.getElem?_cons_succ, dR_sl, nodC]) (by simp [nodC])]
        obtain ⟨M6, hM6⟩ : ∃ M, M5.push (.own (nodC k a b c e s ++ nodC k2 a2 b2 c2 e2 s2) 76) = M := ⟨_, rfl⟩
        have o6 : Old M5 M6 := by subst hM6; exact (Old.refl M5).push _
        have n5 : m4.next < M5.next := Nat.lt_of_lt_of_le (Nat.lt_succ_self _) hlt5
        have g6 := (o6.2 _ n5).trans g5
        have g6' := (o6.2 _ (Nat.lt_of_lt_of_le n4 o5.1)).trans g5'
        rw [hM6]
        have hbs6 := hbs5.old o6
        simp -implicitDefEqProofs (disch := first | assumption | (simp only [wnA]; done) | (simp only [wnA]; omega) | omega | (simp only [List.length_append, List.length_cons, List.length_nil]; omega) | fail) [wkA, retV, stabOk, dC, ev, fillD, pickCells, putAt, bnd, slD, List.getElem?_cons_zero, List.getElem?_cons_succ, dR_sl, Mem.cell, Mem.row, wmA, g6, g6', cat2]
        refine SK_stv (i := m.next) (o := 0) (vs := nodC 2 0 0 0 0 (.slice (some ⟨M5.next, 0, none⟩) 2 6)) (cs := nod0) (e := 76) (by simp [wkA, retV, stabOk, dC, ev, fillD, pickCells, putAt, bnd, slD, List.getElem?_cons_zero, List.getElem?_cons_succ, dR_sl]) hbs6.g (by simp [wkA, retV, stabOk, dC, ev, fillD, pickCells, putAt, bnd, slD, List.getElem?_cons_zero, List.getElem?_cons_succ, dR_sl, nodC]) (by simp [nod0]) rfl rfl ?_
        simp -implicitDefEqProofs (disch := first | assumption | (simp only [wnA]; done) | (simp only [wnA]; omega) | omega | (simp only [List.length_append, List.length_cons, List.length_nil]; omega) | fail) [wkA, retV, stabOk, dC, ev, fillD, pickCells, putAt, bnd, slD, List.getElem?_cons_zero, List.getElem?_cons_succ, dR_sl, Mem.cell, Mem.row, wmA]
        exact hbs6.ret (t := 40 :: (t ++ ([41, 40] ++ (t2 ++ [41])))) hq (SafeL.cons (by decide) (ht.app (SafeL.app (SafeL.cons (by decide) (SafeL.cons (by decide) (fun x hx => by cases hx))) (ht2.app (SafeL.cons (by decide) (fun x hx => by cases hx)))))) (by simp; omega) ⟨rfl, rfl⟩ (by simp) (by simp) (by simp)
    · simp -implicitDefEqProofs (disch := first | assumption | (simp only [wnA]; done) | (simp only [wnA]; omega) | omega | fail) [rc46_15, rc46_14, wkA, retV, stabOk, dC, ev, fillD, pickCells, putAt, bnd, slD, List.getElem?_cons_zero, List.getElem?_cons_succ, dR_sl, Mem.cell, Mem.row, wmA, hdd]
      refine IH w0 m1 v' ns _ hbs.sv (fun b hb => by have := hvb b (sb' b hb); omega) (by have : (x :: ns).length ≤ maxLen := hl; simp at this; omega) ?_
      intro m2 t nd v2 ns2 o2 ht htl hnd sv2' sb2 hn2
      obtain ⟨k, a, b, c, e, s, rfl, hs1, hs2⟩ := hnd
      have hbs2 : BS m m2 v v2 (x :: ns) ns2 := ⟨o1.trans o2, Nat.lt_of_lt_of_le n1 o2.1, (o2.2 _ n1).trans g1, sv2', fun b hb => sb' b (sb2 b hb), hvb, by simp; omega⟩
      simp -implicitDefEqProofs (disch := first | assumption | (simp only [wnA]; done) | (simp only [wnA]; omega) | omega | fail) [wkA, retV, stabOk, dC, ev, fillD, pickCells, putAt, bnd, slD, List.getElem?_cons_zero, List.getElem?_cons_succ, dR_sl, Mem.cell, Mem.row, wmA]
      obtain ⟨M3, hM3⟩ : ∃ M, (m2.push (.own nod0 76)).set m2.next (.own (nodC k a b c e s) 76) = M := ⟨_, rfl⟩
      refine SK_stm (i := m2.next) (o := 0) (vs := nodC k a b c e s) (cs := nod0) (e := 76) (M := M3) (by simp [wkA, retV, stabOk, dC, ev, fillD, pickCells, putAt, bnd, slD, List.getElem?_cons_zero, List.getElem?_cons_succ, dR_sl]) (by simp -implicitDefEqProofs (disch := first | assumption | (simp only [wnA]; done) | (simp only [wnA]; omega) | omega | fail) [wkA, retV, stabOk, dC, ev, fillD, pickCells, putAt, bnd, slD, List.getElem?_cons_zero, List.getElem?_cons_succ, dR_sl, Mem.cell, Mem.row, wmA, nod0]) (by simp [wkA, retV, stabOk, dC, ev, fillD, pickCells, putAt, bnd, slD, List.getElem?_cons_zero, List.getElem?_cons_succ, dR_sl]) (by simp [nod0]) rfl (by simp only [nodC, List.all_cons, List.all_nil, hs1]; rfl) hM3 ?_
      have o3 : Old m2 M3 := by subst hM3; exact ((Old.refl m2).push _).set (Nat.le_refl _) _
      have g3 : M3.get m2.next = .own (nodC k a b c e s) 76 := by subst hM3; rw [Mem.set_same]
      have hlt3 : m2.next + 1 ≤ M3.next := by subst hM3; simp
      clear hM3
      have hbs3 := hbs2.old o3
      simp -implicitDefEqProofs (disch := first | assumption | (simp only [wnA]; done) | (simp only [wnA]; omega) | omega | fail) [wkA, retV, stabOk, dC, ev, fillD, pickCells, putAt, bnd, slD, List.getElem?_cons_zero, List.getElem?_cons_succ, dR_sl, Mem.cell, Mem.row, wmA, hdd]
      refine IH w0 M3 v2 ns2 _ hbs3.sv (fun b hb => by have := hvb b (hbs3.b b hb); have := hbs3.n; omega) (by have : (x :: ns).length ≤ maxLen := hl; simp at this; omega) ?_
      intro m4 t2 nd2 v4 ns4 o4 ht2 htl2 hnd2 sv4' sb4 hn4
      obtain ⟨k2, a2, b2, c2, e2, s2, rfl, hs3, hs4⟩ := hnd2
      have hbs4 : BS m m4 v v4 (x :: ns) ns4 := ⟨hbs3.o.trans o4, Nat.lt_of_lt_of_le hbs3.n o4.1, (o4.2 _ hbs3.n).trans hbs3.g, sv4', fun b hb => hbs3.b b (sb4 b hb), hvb, by simp; omega⟩
      have n3 : m2.next < M3.next := Nat.lt_of_lt_of_le (Nat.lt_succ_self _) hlt3
      have g4 := (o4.2 _ n3).trans g3
      have n4 : m2.next < m4.next := Nat.lt_of_lt_of_le n3 o4.1
      simp -implicitDefEqProofs (disch := first | assumption | (simp only [wnA]; done) | (simp only [wnA]; omega) | omega | fail) [wkA, retV, stabOk, dC, ev, fillD, pickCells, putAt, bnd, slD, List.getElem?_cons_zero, List.getElem?_cons_succ, dR_sl, Mem.cell, Mem.row, wmA]
      obtain ⟨M5, hM5⟩ : ∃ M, (m4.push (.own nod0 76)).set m4.next (.own (nodC k2 a2 b2 c2 e2 s2) 76) = M := ⟨_, rfl⟩
      refine SK_stm (i := m4.next) (o := 0) (vs := nodC k2 a2 b2 c2 e2 s2) (cs := nod0) (e := 76) (M := M5) (by simp [wkA, retV, stabOk, dC, ev, fillD, pickCells, putAt, bnd, slD, List.getElem?_cons_zero, List.getElem?_cons_succ, dR_sl]) (by simp -implicitDefEqProofs (disch := first | assumption | (simp only [wnA]; done) | (simp only [wnA]; omega) | omega | fail) [wkA, retV, stabOk, dC, ev, fillD, pickCells, putAt, bnd, slD, List.getElem?_cons_zero, List.getElem?_cons_succ, dR_sl, Mem.cell, Mem.row, wmA, nod0]) (by simp [wkA, retV, stabOk, dC, ev, fillD, pickCells, putAt, bnd, slD, List.getElem?_cons_zero, List.getElem?_cons_succ, dR_sl]) (by simp [nod0]) rfl (by simp only [nodC, List.all_cons, List.all_nil, hs3]; rfl) hM5 ?_
      have o5 : Old m4 M5 := by subst hM5; exact ((Old.refl m4).push _).set (Nat.le_refl _) _
      have g5 : M5.get m4.next = .own (nodC k2 a2 b2 c2 e2 s2) 76 := by subst hM5; rw [Mem.set_same]
      have g5' := (o5.2 _ n4).trans g4
      have hlt5 : m4.next + 1 ≤ M5.next := by subst hM5; simp
      clear hM5
      have hbs5 := hbs4.old o5
      simp -implicitDefEqProofs (disch := first | assumption | (simp only [wnA]; done) | (simp only [wnA]; omega) | omega | fail) [wkA, retV, stabOk, dC, ev, fillD, pickCells, putAt, bnd, slD, List.getElem?_cons_zero, List.getElem?_cons_succ, dR_sl, Mem.cell, Mem.row, wmA]
      refine AbW_sem_of ?_
      simp only [nodC] at g5 g5'
      simp -implicitDefEqProofs (disch := first | assumption | (simp only [wnA]; done) | (simp only [wnA]; omega) | omega | (simp only [List.length_append, List.length_cons, List.length_nil]; omega) | fail) [rc46_4, rc46_5, wkA, retV, stabOk, dC, ev, fillD, pickCells, putAt, bnd, slD, List.getElem?_cons_zero, List.getElem?_cons_succ, dR_sl, Mem.cell, Mem.row, wmA, g5, g5', cat2]
      constructor
      all_goals
        rw [SK_bsl (cs := nodC k a b c e s ++ nodC k2 a2 b2 c2 e2 s2) (by simp [wkA, retV, stabOk, dC, ev, fillD, pickCells, putAt, bnd, slD, List.getElem?_cons_zero, List.getElem?_cons_succ, dR_sl, nodC]) (by simp [nodC])]
        obtain ⟨M6, hM6⟩ : ∃ M, M5.push (.own (nodC k a b c e s ++ nodC k2 a2 b2 c2 e2 s2) 76) = M := ⟨_, rfl⟩
        have o6 : Old M5 M6 := by subst hM6; exact (Old.refl M5).push _
        have n5 : m4.next < M5.next := Nat.lt_of_lt_of_le (Nat.lt_succ_self _) hlt5
        have g6 := (o6.2 _ n5).trans g5
        have g6' := (o6.2 _ (Nat.lt_of_lt_of_le n4 o5.1)).trans g5'
        rw [hM6]
        have hbs6 := hbs5.old o6
        simp -implicitDefEqProofs (disch := first | assumption | (simp only [wnA]; done) | (simp only [wnA]; omega) | omega | (simp only [List.length_append, List.length_cons, List.length_nil]; omega) | fail) [wkA, retV, stabOk, dC, ev, fillD, pickCells, putAt, bnd, slD, List.getElem?_cons_zero, List.getElem?_cons_succ, dR_sl, Mem.cell, Mem.row, wmA, g6, g6', cat2]
        refine SK_stv (i := m.next) (o := 0) (vs := nodC 3 0 0 0 0 (.slice (some ⟨M5.next, 0, none⟩) 2 6)) (cs := nod0) (e := 76) (by simp [wkA, retV, stabOk, dC, ev, fillD, pickCells, putAt, bnd, slD, List.getElem?_cons_zero, List.getElem?_cons_succ, dR_sl]) hbs6.g (by simp [wkA, retV, stabOk, dC, ev, fillD, pickCells, putAt, bnd, slD, List.getElem?_cons_zero, List.getElem?_cons_succ, dR_sl, nodC]) (by simp [nod0]) rfl rfl ?_
        simp -implicitDefEqProofs (disch := first | assumption | (simp only [wnA]; done) | (simp only [wnA]; omega) | omega | (simp only [List.length_append, List.length_cons, List.length_nil]; omega) | fail) [wkA, retV, stabOk, dC, ev, fillD, pickCells, putAt, bnd, slD, List.getElem?_cons_zero, List.getElem?_cons_succ, dR_sl, Mem.cell, Mem.row, wmA]
        exact hbs6.ret (t := 40 :: (t ++ ([124, 40] ++ (t2 ++ [41, 41])))) hq (SafeL.cons (by decide) (ht.app (SafeL.app (SafeL.cons (by decide) (SafeL.cons (by decide) (fun x hx => by cases hx))) (ht2.app (SafeL.cons (by decide) (SafeL.cons (by decide) (fun x hx => by cases hx))))))) (by simp; omega) ⟨rfl, rfl⟩ (by simp) (by simp) (by simp)
    · simp -implicitDefEqProofs (disch := first | assumption | (simp only [wnA]; done) | (simp only [wnA]; omega) | omega | fail) [rc46_15, rc46_14, wkA, retV, stabOk, dC, ev, fillD, pickCells, putAt, bnd, slD, List.getElem?_cons_zero, List.getElem?_cons_succ, dR_sl, Mem.cell, Mem.row, wmA, hdd]
      refine IH w0 m1 v' ns _ hbs.sv (fun b hb => by have := hvb b (sb' b hb); omega) (by have : (x :: ns).length ≤ maxLen := hl; simp at this; omega) ?_
      intro m2 t nd v2 ns2 o2 ht htl hnd sv2' sb2 hn2
      obtain ⟨k, a, b, c, e, s, rfl, hs1, hs2⟩ := hnd
      have hbs2 : BS m m2 v v2 (x :: ns) ns2 := ⟨o1.trans o2, Nat.lt_of_lt_of_le n1 o2.1, (o2.2 _ n1).trans g1, sv2', fun b hb => sb' b (sb2 b hb), hvb, by simp; omega⟩
      simp -implicitDefEqProofs (disch := first | assumption | (simp only [wnA]; done) | (simp only [wnA]; omega) | omega | fail) [wkA, retV, stabOk, dC, ev, fillD, pickCells, putAt, bnd, slD, List.getElem?_cons_zero, List.getElem?_cons_succ, dR_sl, Mem.cell, Mem.row, wmA]
      obtain ⟨M3, hM3⟩ : ∃ M, (m2.push (.own nod0 76)).set m2.next (.own (nodC k a b c e s) 76) = M := ⟨_, rfl⟩
      refine SK_stm (i := m2.next) (o := 0) (vs := nodC k a b c e s) (cs := nod0) (e := 76) (M := M3) (by simp [wkA, retV, stabOk, dC, ev, fillD, pickCells, putAt, bnd, slD, List.getElem?_cons_zero, List.getElem?_cons_succ, dR_sl]) (by simp -implicitDefEqProofs (disch := first | assumption | (simp only [wnA]; done) | (simp only [wnA]; omega) | omega | fail) [wkA, retV, stabOk, dC, ev, fillD, pickCells, putAt, bnd, slD, List.getElem?_cons_zero, List.getElem?_cons_succ, dR_sl, Mem.cell, Mem.row, wmA, nod0]) (by simp [wkA, retV, stabOk, dC, ev, fillD, pickCells, putAt, bnd, slD, List.getElem?_cons_zero, List.getElem?_cons_succ, dR_sl]) (by simp [nod0]) rfl (by simp only [nodC, List.all_cons, List.all_nil, hs1]; rfl) hM3 ?_
      have o3 : Old m2 M3 := by subst hM3; exact ((Old.refl m2).push _).set (Nat.le_refl _) _
      have g3 : M3.get m2.next = .own (nodC k a b c e s) 76 := by subst hM3; rw [Mem.set_same]
      have hlt3 : m2.next + 1 ≤ M3.next := by subst hM3; simp
      clear hM3
      have hbs3 := hbs2.old o3
      simp -implicitDefEqProofs (disch := first | assumption | (simp only [wnA]; done) | (simp only [wnA]; omega) | omega | fail) [wkA, retV, stabOk, dC, ev, fillD, pickCells, putAt, bnd, slD, List.getElem?_cons_zero, List.getElem?_cons_succ, dR_sl, Mem.cell, Mem.row, wmA, hdd]
      refine IH w0 M3 v2 ns2 _ hbs3.sv (fun b hb => by have := hvb b (hbs3.b b hb); have := hbs3.n; omega) (by have : (x :: ns).length ≤ maxLen := hl; simp at this; omega) ?_
      intro m4 t2 nd2 v4 ns4 o4 ht2 htl2 hnd2 sv4' sb4 hn4
      obtain ⟨k2, a2, b2, c2, e2, s2, rfl, hs3, hs4⟩ := hnd2
      have hbs4 : BS m m4 v v4 (x :: ns) ns4 := ⟨hbs3.o.trans o4, Nat.lt_of_lt_of_le hbs3.n o4.1, (o4.2 _ hbs3.n).trans hbs3.g, sv4', fun b hb => hbs3.b b (sb4 b hb), hvb, by simp; omega⟩
      have n3 : m2.next < M3.next := Nat.lt_of_lt_of_le (Nat.lt_succ_self _) hlt3
      have g4 := (o4.2 _ n3).trans g3
      have n4 : m2.next < m4.next := Nat.lt_of_lt_of_le n3 o4.1
      simp -implicitDefEqProofs (disch := first | assumption | (simp only [wnA]; done) | (simp only [wnA]; omega) | omega | fail) [wkA, retV, stabOk, dC, ev, fillD, pickCells, putAt, bnd, slD, List.getElem?_cons_zero, List.getElem?_cons_succ, dR_sl, Mem.cell, Mem.row, wmA]
      obtain ⟨M5, hM5⟩ : ∃ M, (m4.push (.own nod0 76)).set m4.next (.own (nodC k2 a2 b2 c2 e2 s2) 76) = M := ⟨_, rfl⟩
      refine SK_stm (i := m4.next) (o := 0) (vs := nodC k2 a2 b2 c2 e2 s2) (cs := nod0) (e := 76) (M := M5) (by simp [wkA, retV, stabOk, dC, ev, fillD, pickCells, putAt, bnd, slD, List.getElem?_cons_zero, List.getElem?_cons_succ, dR_sl]) (by simp -implicitDefEqProofs (disch := first | assumption | (simp only [wnA]; done) | (simp only [wnA]; omega) | omega | fail) [wkA, retV, stabOk, dC, ev, fillD, pickCells, putAt, bnd, slD, List.getElem?_cons_zero, List.getElem?_cons_succ, dR_sl, Mem.cell, Mem.row, wmA, nod0]) (by simp [wkA, retV, stabOk, dC, ev, fillD, pickCells, putAt, bnd, slD, List.getElem?_cons_zero, List.getElem?_cons_succ, dR_sl]) (by simp [nod0]) rfl (by simp only [nodC, List.all_cons, List.all_nil, hs3]; rfl) hM5 ?_
      have o5 : Old m4 M5 := by subst hM5; exact ((Old.refl m4).push _).set (Nat.le_refl _) _
      have g5 : M5.get m4.next = .own (nodC k2 a2 b2 c2 e2 s2) 76 := by subst hM5; rw [Mem.set_same]
      have g5' := (o5.2 _ n4).trans g4
      have hlt5 : m4.next + 1 ≤ M5.next := by subst hM5; simp
      clear hM5
      have hbs5 := hbs4.old o5
      simp -implicitDefEqProofs (disch := first | assumption | (simp only [wnA]; done) | (simp only [wnA]; omega) | omega | fail) [wkA, retV, stabOk, dC, ev, fillD, pickCells, putAt, bnd, slD, List.getElem?_cons_zero, List.getElem?_cons_succ, dR_sl, Mem.cell, Mem.row, wmA]
      refine AbW_sem_of ?_
      simp only [nodC] at g5 g5'
      simp -implicitDefEqProofs (disch := first | assumption | (simp only [wnA]; done) | (simp only [wnA]; omega) | omega | (simp only [List.length_append, List.length_cons, List.length_nil]; omega) | fail) [rc46_4, rc46_5, wkA, retV, stabOk, dC, ev, fillD, pickCells, putAt, bnd, slD, List.getElem?_cons_zero, List.getElem?_cons_succ, dR_sl, Mem.cell, Mem.row, wmA, g5, g5', cat2]
      constructor
      all_goals
        rw [SK_bsl (cs := nodC k a b c e s ++ nodC k2 a2 b2 c2 e2 s2) (by simp [wkA, retV, stabOk, dC, ev, fillD, pickCells, putAt, bnd, slD, List.getElem?_cons_zero, List.getElem?_cons_succ, dR_sl, nodC]) (by simp [nodC])]
        obtain ⟨M6, hM6⟩ : ∃ M, M5.push (.own (nodC k a b c e s ++ nodC k2 a2 b2 c2 e2 s2) 76) = M := ⟨_, rfl⟩
        have o6 : Old M5 M6 := by subst hM6; exact (Old.refl M5).push _
        have n5 : m4.next < M5.next := Nat.lt_of_lt_of_le (Nat.lt_succ_self _) hlt5
        have g6 := (o6.2 _ n5).trans g5
        have g6' := (o6.2 _ (Nat.lt_of_lt_of_le n4 o5.1)).trans g5'
        rw [hM6]
        have hbs6 := hbs5.old o6
        simp -implicitDefEqProofs (disch := first | assumption | (simp only [wnA]; done) | (simp only [wnA]; omega) | omega | (simp only [List.length_append, List.length_cons, List.length_nil]; omega) | fail) [wkA, retV, stabOk, dC, ev, fillD, pickCells, putAt, bnd, slD, List.getElem?_cons_zero, List.getElem?_cons_succ, dR_sl, Mem.cell, Mem.row, wmA, g6, g6', cat2]
        refine SK_stv (i := m.next) (o := 0) (vs := nodC 3 0 0 0 0 (.slice (some ⟨M5.next, 0, none⟩) 2 6)) (cs := nod0) (e := 76) (by simp [wkA, retV, stabOk, dC, ev, fillD, pickCells, putAt, bnd, slD, List.getElem?_cons_zero, List.getElem?_cons_succ, dR_sl]) hbs6.g (by simp [wkA, retV, stabOk, dC, ev, fillD, pickCells, putAt, bnd, slD, List.getElem?_cons_zero, List.getElem?_cons_succ, dR_sl, nodC]) (by simp [nod0]) rfl rfl ?_
        simp -implicitDefEqProofs (disch := first | assumption | (simp only [wnA]; done) | (simp only [wnA]; omega) | omega | (simp only [List.length_append, List.length_cons, List.length_nil]; omega) | fail) [wkA, retV, stabOk, dC, ev, fillD, pickCells, putAt, bnd, slD, List.getElem?_cons_zero, List.getElem?_cons_succ, dR_sl, Mem.cell, Mem.row, wmA]
        exact hbs6.ret (t := 40 :: (t ++ ([124, 40] ++ (t2 ++ [41, 41])))) hq (SafeL.cons (by decide) (ht.app (SafeL.app (SafeL.cons (by decide) (SafeL.cons (by decide) (fun x hx => by cases hx))) (ht2.app (SafeL.cons (by decide) (SafeL.cons (by decide) (fun x hx => by cases hx))))))) (by simp; omega) ⟨rfl, rfl⟩ (by simp) (by simp) (by simp)
    · simp -implicitDefEqProofs (disch := first | assumption | (simp only [wnA]; done) | (simp only [wnA]; omega) | omega | fail) [rc46_15, rc46_14, wkA, retV, stabOk, dC, ev, fillD, pickCells, putAt, bnd, slD, List.getElem?_cons_zero, List.getElem?_cons_succ, dR_sl, Mem.cell, Mem.row, wmA, hdd]
      refine IH w0 m1 v' ns _ hbs.sv (fun b hb => by have := hvb b (sb' b hb); omega) (by have : (x :: ns).length ≤ maxLen := hl; simp at this; omega) ?_
      intro m2 t nd v2 ns2 o2 ht htl hnd sv2' sb2 hn2
      obtain ⟨k, a, b, c, e, s, rfl, hs1, hs2⟩ := hnd
      have hbs2 : BS m m2 v v2 (x :: ns) ns2 := ⟨o1.trans o2, Nat.lt_of_lt_of_le n1 o2.1, (o2.2 _ n1).trans g1, sv2', fun b hb => sb' b (sb2 b hb), hvb, by simp; omega⟩
      simp -implicitDefEqProofs (disch := first | assumption | (simp only [wnA]; done) | (simp only [wnA]; omega) | omega | fail) [wkA, retV, stabOk, dC, ev, fillD, pickCells, putAt, bnd, slD, List.getElem?_cons_zero, List.getElem?_cons_succ, dR_sl, Mem.cell, Mem.row, wmA]
      obtain ⟨M3, hM3⟩ : ∃ M, (m2.push (.own nod0 76)).set m2.next (.own (nodC k a b c e s) 76) = M := ⟨_, rfl⟩
      refine SK_stm (i := m2.next) (o := 0) (vs := nodC k a b c e s) (cs := nod0) (e := 76) (M := M3) (by simp [wkA, retV, stabOk, dC, ev, fillD, pickCells, putAt, bnd, slD, List.getElem?_cons_zero, List.getElem?_cons_succ, dR_sl]) (by simp -implicitDefEqProofs (disch := first | assumption | (simp only [wnA]; done) | (simp only [wnA]; omega) | omega | fail) [wkA, retV, stabOk, dC, ev, fillD, pickCells, putAt, bnd, slD, List.getElem?_cons_zero, List.getElem?_cons_succ, dR_sl, Mem.cell, Mem.row, wmA, nod0]) (by simp [wkA, retV, stabOk, dC, ev, fillD, pickCells, putAt, bnd, slD, List.getElem?_cons_zero, List.getElem?_cons_succ, dR_sl]) (by simp [nod0]) rfl (by simp only [nodC, List.all_cons, List.all_nil, hs1]; rfl) hM3 ?_
      have o3 : Old m2 M3 := by subst hM3; exact ((Old.refl m2).push _).set (Nat.le_refl _) _
      have g3 : M3.get m2.next = .own (nodC k a b c e s) 76 := by subst hM3; rw [Mem.set_same]
      have hlt3 : m2.next + 1 ≤ M3.next := by subst hM3; simp
      clear hM3
      have hbs3 := hbs2.old o3
      simp -implicitDefEqProofs (disch := first | assumption | (simp only [wnA]; done) | (simp only [wnA]; omega) | omega | fail) [wkA, retV, stabOk, dC, ev, fillD, pickCells, putAt, bnd, slD, List.getElem?_cons_zero, List.getElem?_cons_succ, dR_sl, Mem.cell, Mem.row, wmA]
      refine AbW_sem_of ?_
      simp only [nodC] at g3
      simp -implicitDefEqProofs (disch := first | assumption | (simp only [wnA]; done) | (simp only [wnA]; omega) | omega | (simp only [List.length_append, List.length_cons, List.length_nil]; omega) | fail) [rc46_6, rc46_7, wkA, retV, stabOk, dC, ev, fillD, pickCells, putAt, bnd, slD, List.getElem?_cons_zero, List.getElem?_cons_succ, dR_sl, Mem.cell, Mem.row, wmA, g3, cat2]
      constructor
      all_goals
        rw [SK_bsl (cs := nodC k a b c e s) (by simp [wkA, retV, stabOk, dC, ev, fillD, pickCells, putAt, bnd, slD, List.getElem?_cons_zero, List.getElem?_cons_succ, dR_sl, nodC]) (by simp [nodC])]
        obtain ⟨M4, hM4⟩ : ∃ M, M3.push (.own (nodC k a b c e s) 76) = M := ⟨_, rfl⟩
        have o4 : Old M3 M4 := by subst hM4; exact (Old.refl M3).push _
        have n3 : m2.next < M3.next := Nat.lt_of_lt_of_le (Nat.lt_succ_self _) hlt3
        have g4 := (o4.2 _ n3).trans g3
        rw [hM4]
        have hbs4 := hbs3.old o4
        simp -implicitDefEqProofs (disch := first | assumption | (simp only [wnA]; done) | (simp only [wnA]; omega) | omega | (simp only [List.length_append, List.length_cons, List.length_nil]; omega) | fail) [wkA, retV, stabOk, dC, ev, fillD, pickCells, putAt, bnd, slD, List.getElem?_cons_zero, List.getElem?_cons_succ, dR_sl, Mem.cell, Mem.row, wmA, g4, cat2]
        refine SK_stv (i := m.next) (o := 0) (vs := nodC 4 0 0 0 0 (.slice (some ⟨M3.next, 0, none⟩) 1 6)) (cs := nod0) (e := 76) (by simp [wkA, retV, stabOk, dC, ev, fillD, pickCells, putAt, bnd, slD, List.getElem?_cons_zero, List.getElem?_cons_succ, dR_sl]) hbs4.g (by simp [wkA, retV, stabOk, dC, ev, fillD, pickCells, putAt, bnd, slD, List.getElem?_cons_zero, List.getElem?_cons_succ, dR_sl, nodC]) (by simp [nod0]) rfl rfl ?_
        simp -implicitDefEqProofs (disch := first | assumption | (simp only [wnA]; done) | (simp only [wnA]; omega) | omega | (simp only [List.length_append, List.length_cons, List.length_nil]; omega) | fail) [wkA, retV, stabOk, dC, ev, fillD, pickCells, putAt, bnd, slD, List.getElem?_cons_zero, List.getElem?_cons_succ, dR_sl, Mem.cell, Mem.row, wmA]
        exact hbs4.ret (t := 40 :: (t ++ [41, 42])) hq (SafeL.cons (by decide) (ht.app (SafeL.cons (by decide) (SafeL.cons (by decide) (fun x hx => by cases hx))))) (by simp; omega) ⟨rfl, rfl⟩ (by simp) (by simp) (by simp)
    · simp -implicitDefEqProofs (disch := first | assumption | (simp only [wnA]; done) | (simp only [wnA]; omega) | omega | fail) [rc46_15, rc46_14, wkA, retV, stabOk, dC, ev, fillD, pickCells, putAt, bnd, slD, List.getElem?_cons_zero, List.getElem?_cons_succ, dR_sl, Mem.cell, Mem.row, wmA, hdd]
      refine IH w0 m1 v' ns _ hbs.sv (fun b hb => by have := hvb b (sb' b hb); omega) (by have : (x :: ns).length ≤ maxLen := hl; simp at this; omega) ?_
      intro m2 t nd v2 ns2 o2 ht htl hnd sv2' sb2 hn2
      obtain ⟨k, a, b, c, e, s, rfl, hs1, hs2⟩ := hnd
      have hbs2 : BS m m2 v v2 (x :: ns) ns2 := ⟨o1.trans o2, Nat.lt_of_lt_of_le n1 o2.1, (o2.2 _ n1).trans g1, sv2', fun b hb => sb' b (sb2 b hb), hvb, by simp; omega⟩
      simp -implicitDefEqProofs (disch := first | assumption | (simp only [wnA]; done) | (simp only [wnA]; omega) | omega | fail) [wkA, retV, stabOk, dC, ev, fillD, pickCells, putAt, bnd, slD, List.getElem?_cons_zero, List.getElem?_cons_succ, dR_sl, Mem.cell, Mem.row, wmA]
      obtain ⟨M3, hM3⟩ : ∃ M, (m2.push (.own nod0 76)).set m2.next (.own (nodC k a b c e s) 76) = M := ⟨_, rfl⟩
      refine SK_stm (i := m2.next) (o := 0) (vs := nodC k a b c e s) (cs := nod0) (e := 76) (M := M3) (by simp [wkA, retV, stabOk, dC, ev, fillD, pickCells, putAt, bnd, slD, List.getElem?_cons_zero, List.getElem?_cons_succ, dR_sl]) (by simp -implicitDefEqProofs (disch := first | assumption | (simp only [wnA]; done) | (simp only [wnA]; omega) | omega | fail) [wkA, retV, stabOk, dC, ev, fillD, pickCells, putAt, bnd, slD, List.getElem?_cons_zero, List.getElem?_cons_succ, dR_sl, Mem.cell, Mem.row, wmA, nod0]) (by simp [wkA, retV, stabOk, dC, ev, fillD, pickCells, putAt, bnd, slD, List.getElem?_cons_zero, List.getElem?_cons_succ, dR_sl]) (by simp [nod0]) rfl (by simp only [nodC, List.all_cons, List.all_nil, hs1]; rfl) hM3 ?_
      have o3 : Old m2 M3 := by subst hM3; exact ((Old.refl m2).push _).set (Nat.le_refl _) _
      have g3 : M3.get m2.next = .own (nodC k a b c e s) 76 := by subst hM3; rw [Mem.set_same]
      have hlt3 : m2.next + 1 ≤ M3.next := by subst hM3; simp
      clear hM3
      have hbs3 := hbs2.old o3
      simp -implicitDefEqProofs (disch := first | assumption | (simp only [wnA]; done) | (simp only [wnA]; omega) | omega | fail) [wkA, retV, stabOk, dC, ev, fillD, pickCells, putAt, bnd, slD, List.getElem?_cons_zero, List.getElem?_cons_succ, dR_sl, Mem.cell, Mem.row, wmA]
      refine AbW_sem_of ?_
      simp only [nodC] at g3
      simp -implicitDefEqProofs (disch := first | assumption | (simp only [wnA]; done) | (simp only [wnA]; omega) | omega | (simp only [List.length_append, List.length_cons, List.length_nil]; omega) | fail) [rc46_8, rc46_9, wkA, retV, stabOk, dC, ev, fillD, pickCells, putAt, bnd, slD, List.getElem?_cons_zero, List.getElem?_cons_succ, dR_sl, Mem.cell, Mem.row, wmA, g3, cat2]
      constructor
      all_goals
        rw [SK_bsl (cs := nodC k a b c e s ++ nod0) (by simp [wkA, retV, stabOk, dC, ev, fillD, pickCells, putAt, bnd, slD, List.getElem?_cons_zero, List.getElem?_cons_succ, dR_sl, nodC, nod0]) (by simp [nodC, nod0])]
        obtain ⟨M4, hM4⟩ : ∃ M, M3.push (.own (nodC k a b c e s ++ nod0) 76) = M := ⟨_, rfl⟩
        have o4 : Old M3 M4 := by subst hM4; exact (Old.refl M3).push _
        have n3 : m2.next < M3.next := Nat.lt_of_lt_of_le (Nat.lt_succ_self _) hlt3
        have g4 := (o4.2 _ n3).trans g3
        rw [hM4]
        have hbs4 := hbs3.old o4
        simp -implicitDefEqProofs (disch := first | assumption | (simp only [wnA]; done) | (simp only [wnA]; omega) | omega | (simp only [List.length_append, List.length_cons, List.length_nil]; omega) | fail) [wkA, retV, stabOk, dC, ev, fillD, pickCells, putAt, bnd, slD, List.getElem?_cons_zero, List.getElem?_cons_succ, dR_sl, Mem.cell, Mem.row, wmA, g4, cat2]
        refine SK_stv (i := m.next) (o := 0) (vs := nodC 3 0 0 0 0 (.slice (some ⟨M3.next, 0, none⟩) 2 6)) (cs := nod0) (e := 76) (by simp [wkA, retV, stabOk, dC, ev, fillD, pickCells, putAt, bnd, slD, List.getElem?_cons_zero, List.getElem?_cons_succ, dR_sl]) hbs4.g (by simp [wkA, retV, stabOk, dC, ev, fillD, pickCells, putAt, bnd, slD, List.getElem?_cons_zero, List.getElem?_cons_succ, dR_sl, nodC]) (by simp [nod0]) rfl rfl ?_
        simp -implicitDefEqProofs (disch := first | assumption | (simp only [wnA]; done) | (simp only [wnA]; omega) | omega | (simp only [List.length_append, List.length_cons, List.length_nil]; omega) | fail) [wkA, retV, stabOk, dC, ev, fillD, pickCells, putAt, bnd, slD, List.getElem?_cons_zero, List.getElem?_cons_succ, dR_sl, Mem.cell, Mem.row, wmA]
        exact hbs4.ret (t := 40 :: (t ++ [41, 63])) hq (SafeL.cons (by decide) (ht.app (SafeL.cons (by decide) (SafeL.cons (by decide) (fun x hx => by cases hx))))) (by simp; omega) ⟨rfl, rfl⟩ (by simp) (by simp) (by simp)
    · simp -implicitDefEqProofs (disch := first | assumption | (simp only [wnA]; done) | (simp only [wnA]; omega) | omega | fail) [rc46_15, rc46_14, wkA, retV, stabOk, dC, ev, fillD, pickCells, putAt, bnd, slD, List.getElem?_cons_zero, List.getElem?_cons_succ, dR_sl, Mem.cell, Mem.row, wmA, hdd]
      refine IH w0 m1 v' ns _ hbs.sv (fun b hb => by have := hvb b (sb' b hb); omega) (by have : (x :: ns).length ≤ maxLen := hl; simp at this; omega) ?_
      intro m2 t nd v2 ns2 o2 ht htl hnd sv2' sb2 hn2
      obtain ⟨k, a, b, c, e, s, rfl, hs1, hs2⟩ := hnd
      have hbs2 : BS m m2 v v2 (x :: ns) ns2 := ⟨o1.trans o2, Nat.lt_of_lt_of_le n1 o2.1, (o2.2 _ n1).trans g1, sv2', fun b hb => sb' b (sb2 b hb), hvb, by simp; omega⟩
      simp -implicitDefEqProofs (disch := first | assumption | (simp only [wnA]; done) | (simp only [wnA]; omega) | omega | fail) [wkA, retV, stabOk, dC, ev, fillD, pickCells, putAt, bnd, slD, List.getElem?_cons_zero, List.getElem?_cons_succ, dR_sl, Mem.cell, Mem.row, wmA]
      obtain ⟨M3, hM3⟩ : ∃ M, (m2.push (.own nod0 76)).set m2.next (.own (nodC k a b c e s) 76) = M := ⟨_, rfl⟩
      refine SK_stm (i := m2.next) (o := 0) (vs := nodC k a b c e s) (cs := nod0) (e := 76) (M := M3) (by simp [wkA, retV, stabOk, dC, ev, fillD, pickCells, putAt, bnd, slD, List.getElem?_cons_zero, List.getElem?_cons_succ, dR_sl]) (by simp -implicitDefEqProofs (disch := first | assumption | (simp only [wnA]; done) | (simp only [wnA]; omega) | omega | fail) [wkA, retV, stabOk, dC, ev, fillD, pickCells, putAt, bnd, slD, List.getElem?_cons_zero, List.getElem?_cons_succ, dR_sl, Mem.cell, Mem.row, wmA, nod0]) (by simp [wkA, retV, stabOk, dC, ev, fillD, pickCells, putAt, bnd, slD, List.getElem?_cons_zero, List.getElem?_cons_succ, dR_sl]) (by simp [nod0]) rfl (by simp only [nodC, List.all_cons, List.all_nil, hs1]; rfl) hM3 ?_
      have o3 : Old m2 M3 := by subst hM3; exact ((Old.refl m2).push _).set (Nat.le_refl _) _
      have g3 : M3.get m2.next = .own (nodC k a b c e s) 76 := by subst hM3; rw [Mem.set_same]
      have hlt3 : m2.next + 1 ≤ M3.next := by subst hM3; simp
      clear hM3
      have hbs3 := hbs2.old o3
      simp -implicitDefEqProofs (disch := first | assumption | (simp only [wnA]; done) | (simp only [wnA]; omega) | omega | fail) [wkA, retV, stabOk, dC, ev, fillD, pickCells, putAt, bnd, slD, List.getElem?_cons_zero, List.getElem?_cons_succ, dR_sl, Mem.cell, Mem.row, wmA]
      refine AbW_sem_of ?_
      simp only [nodC] at g3
      simp -implicitDefEqProofs (disch := first | assumption | (simp only [wnA]; done) | (simp only [wnA]; omega) | omega | (simp only [List.length_append, List.length_cons, List.length_nil]; omega) | fail) [rc46_12, rc46_13, rc46_10, rc46_11, wkA, retV, stabOk, dC, ev, fillD, pickCells, putAt, bnd, slD, List.getElem?_cons_zero, List.getElem?_cons_succ, dR_sl, Mem.cell, Mem.row, wmA, g3, cat2]
      constructor
      all_goals
        rw [SK_bsl (cs := nodC k a b c e s) (by simp [wkA, retV, stabOk, dC, ev, fillD, pickCells, putAt, bnd, slD, List.getElem?_cons_zero, List.getElem?_cons_succ, dR_sl, nodC]) (by simp [nodC])]
        obtain ⟨M4, hM4⟩ : ∃ M, M3.push (.own (nodC k a b c e s) 76) = M := ⟨_, rfl⟩
        have o4 : Old M3 M4 := by subst hM4; exact (Old.refl M3).push _
        have n3 : m2.next < M3.next := Nat.lt_of_lt_of_le (Nat.lt_succ_self _) hlt3
        have g4 := (o4.2 _ n3).trans g3
        have n4 : m2.next < M4.next := Nat.lt_of_lt_of_le n3 o4.1
        rw [hM4]
        have hbs4 := hbs3.old o4
        simp -implicitDefEqProofs (disch := first | assumption | (simp only [wnA]; done) | (simp only [wnA]; omega) | omega | (simp only [List.length_append, List.length_cons, List.length_nil]; omega) | fail) [wkA, retV, stabOk, dC, ev, fillD, pickCells, putAt, bnd, slD, List.getElem?_cons_zero, List.getElem?_cons_succ, dR_sl, Mem.cell, Mem.row, wmA, g4, cat2]
      · constructor
        all_goals
          rw [SK_bsl (cs := nodC k a b c e s ++ nodC 4 0 0 0 0 (.slice (some ⟨M3.next, 0, none⟩) 1 6)) (by simp [wkA, retV, stabOk, dC, ev, fillD, pickCells, putAt, bnd, slD, List.getElem?_cons_zero, List.getElem?_cons_succ, dR_sl, nodC]) (by simp [nodC])]
          obtain ⟨M5, hM5⟩ : ∃ M, M4.push (.own (nodC k a b c e s ++ nodC 4 0 0 0 0 (.slice (some ⟨M3.next, 0, none⟩) 1 6)) 76) = M := ⟨_, rfl⟩
          have o5 : Old M4 M5 := by subst hM5; exact (Old.refl M4).push _
          have g5 := (o5.2 _ n4).trans g4
          rw [hM5]
          have hbs5 := hbs4.old o5
          simp -implicitDefEqProofs (disch := first | assumption | (simp only [wnA]; done) | (simp only [wnA]; omega) | omega | (simp only [List.length_append, List.length_cons, List.length_nil]; omega) | fail) [wkA, retV, stabOk, dC, ev, fillD, pickCells, putAt, bnd, slD, List.getElem?_cons_zero, List.getElem?_cons_succ, dR_sl, Mem.cell, Mem.row, wmA, g5, cat2]
          refine SK_stv (i := m.next) (o := 0) (vs := nodC 2 0 0 0 0 (.slice (some ⟨M4.next, 0, none⟩) 2 6)) (cs := nod0) (e := 76) (by simp [wkA, retV, stabOk, dC, ev, fillD, pickCells, putAt, bnd, slD, List.getElem?_cons_zero, List.getElem?_cons_succ, dR_sl]) hbs5.g (by simp [wkA, retV, stabOk, dC, ev, fillD, pickCells, putAt, bnd, slD, List.getElem?_cons_zero, List.getElem?_cons_succ, dR_sl, nodC]) (by simp [nod0]) rfl rfl ?_
          simp -implicitDefEqProofs (disch := first | assumption | (simp only [wnA]; done) | (simp only [wnA]; omega) | omega | (simp only [List.length_append, List.length_cons, List.length_nil]; omega) | fail) [wkA, retV, stabOk, dC, ev, fillD, pickCells, putAt, bnd, slD, List.getElem?_cons_zero, List.getElem?_cons_succ, dR_sl, Mem.cell, Mem.row, wmA]
          exact hbs5.ret (t := 40 :: (t ++ [41, 43])) hq (SafeL.cons (by decide) (ht.app (SafeL.cons (by decide) (SafeL.cons (by decide) (fun x hx => by cases hx))))) (by simp; omega) ⟨rfl, rfl⟩ (by simp) (by simp) (by simp)
      · skip
        all_goals
          rw [SK_bsl (cs := nodC k a b c e s ++ nodC 4 0 0 0 0 (.slice (some ⟨M3.next, 0, none⟩) 1 6)) (by simp [wkA, retV, stabOk, dC, ev, fillD, pickCells, putAt, bnd, slD, List.getElem?_cons_zero, List.getElem?_cons_succ, dR_sl, nodC]) (by simp [nodC])]
          obtain ⟨M5, hM5⟩ : ∃ M, M4.push (.own (nodC k a b c e s ++ nodC 4 0 0 0 0 (.slice (some ⟨M3.next, 0, none⟩) 1 6)) 76) = M := ⟨_, rfl⟩
          have o5 : Old M4 M5 := by subst hM5; exact (Old.refl M4).push _
          have g5 := (o5.2 _ n4).trans g4
          rw [hM5]
          have hbs5 := hbs4.old o5
          simp -implicitDefEqProofs (disch := first | assumption | (simp only [wnA]; done) | (simp only [wnA]; omega) | omega | (simp only [List.length_append, List.length_cons, List.length_nil]; omega) | fail) [wkA, retV, stabOk, dC, ev, fillD, pickCells, putAt, bnd, slD, List.getElem?_cons_zero, List.getElem?_cons_succ, dR_sl, Mem.cell, Mem.row, wmA, g5, cat2]
          refine SK_stv (i := m.next) (o := 0) (vs := nodC 2 0 0 0 0 (.slice (some ⟨M4.next, 0, none⟩) 2 6)) (cs := nod0) (e := 76) (by simp [wkA, retV, stabOk, dC, ev, fillD, pickCells, putAt, bnd, slD, List.getElem?_cons_zero, List.getElem?_cons_succ, dR_sl]) hbs5.g (by simp [wkA, retV, stabOk, dC, ev, fillD, pickCells, putAt, bnd, slD, List.getElem?_cons_zero, List.getElem?_cons_succ, dR_sl, nodC]) (by simp [nod0]) rfl rfl ?_
          simp -implicitDefEqProofs (disch := first | assumption | (simp only [wnA]; done) | (simp only [wnA]; omega) | omega | (simp only [List.length_append, List.length_cons, List.length_nil]; omega) | fail) [wkA, retV, stabOk, dC, ev, fillD, pickCells, putAt, bnd, slD, List.getElem?_cons_zero, List.getElem?_cons_succ, dR_sl, Mem.cell, Mem.row, wmA]
          exact hbs5.ret (t := 40 :: (t ++ [41, 43])) hq (SafeL.cons (by decide) (ht.app (SafeL.cons (by decide) (SafeL.cons (by decide) (fun x hx => by cases hx))))) (by simp; omega) ⟨rfl, rfl⟩ (by simp) (by simp) (by simp)
    · simp -implicitDefEqProofs (disch := first | assumption | (simp only [wnA]; done) | (simp only [wnA]; omega) | omega | fail) [rc46_15, rc46_14, wkA, retV, stabOk, dC, ev, fillD, pickCells, putAt, bnd, slD, List.getElem?_cons_zero, List.getElem?_cons_succ, dR_sl, Mem.cell, Mem.row, wmA, hdd]
      rw [show (.agg ⟨[.int .u64 0, .int .u64 0, .int .u64 0, .int .u64 0]⟩ : Value) = setV 0 0 0 0 from rfl]
      refine c_Not fun m2 a b c e o2 => ?_
      have hbs2 := hbs.old o2
      unfold setV
      simp -implicitDefEqProofs (disch := first | assumption | (simp only [wnA]; done) | (simp only [wnA]; omega) | omega | fail) [wkA, retV, stabOk, dC, ev, fillD, pickCells, putAt, bnd, slD, List.getElem?_cons_zero, List.getElem?_cons_succ, dR_sl, Mem.cell, Mem.row, wmA]
      refine SK_stv (i := m.next) (o := 0) (vs := nodC 1 a b c e (.slice none 0 0)) (cs := nod0) (e := 76) (by simp [wkA, retV, stabOk, dC, ev, fillD, pickCells, putAt, bnd, slD, List.getElem?_cons_zero, List.getElem?_cons_succ, dR_sl]) hbs2.g (by simp [wkA, retV, stabOk, dC, ev, fillD, pickCells, putAt, bnd, slD, List.getElem?_cons_zero, List.getElem?_cons_succ, dR_sl, nodC]) (by simp [nod0]) rfl rfl ?_
      simp -implicitDefEqProofs (disch := first | assumption | (simp only [wnA]; done) | (simp only [wnA]; omega) | omega | fail) [wkA, retV, stabOk, dC, ev, fillD, pickCells, putAt, bnd, slD, List.getElem?_cons_zero, List.getElem?_cons_succ, dR_sl, Mem.cell, Mem.row, wmA]
      exact hbs2.ret (t := [46]) hq (SafeL.cons (by decide) (fun x hx => by cases hx)) (by simp; omega) ⟨rfl, rfl⟩ (by simp) (by simp) (by simp)
    · simp -implicitDefEqProofs (disch := first | assumption | (simp only [wnA]; done) | (simp only [wnA]; omega) | omega | fail) [rc46_15, rc46_14, rc46_16, wkA, retV, stabOk, dC, ev, fillD, pickCells, putAt, bnd, slD, List.getElem?_cons_zero, List.getElem?_cons_succ, dR_sl, Mem.cell, Mem.row, wmA, hdd]
      rw [show (.agg ⟨[.int .u64 0, .int .u64 0, .int .u64 0, .int .u64 0]⟩ : Value) = setV 0 0 0 0 from rfl]
      refine c_With (x := 97) (.inl rfl) fun m2 a1 o2 => ?_
      simp -implicitDefEqProofs (disch := first | assumption | (simp only [wnA]; done) | (simp only [wnA]; omega) | omega | fail) [wkA, retV, stabOk, dC, ev, fillD, pickCells, putAt, bnd, slD, List.getElem?_cons_zero, List.getElem?_cons_succ, dR_sl, Mem.cell, Mem.row, wmA]
      refine c_With (x := 98) (.inr (.inl rfl)) fun m3 a2 o3 => ?_
      simp -implicitDefEqProofs (disch := first | assumption | (simp only [wnA]; done) | (simp only [wnA]; omega) | omega | fail) [wkA, retV, stabOk, dC, ev, fillD, pickCells, putAt, bnd, slD, List.getElem?_cons_zero, List.getElem?_cons_succ, dR_sl, Mem.cell, Mem.row, wmA]
      refine c_Not fun m4 a b c e o4 => ?_
      have hbs2 := ((hbs.old o2).old o3).old o4
      unfold setV
      simp -implicitDefEqProofs (disch := first | assumption | (simp only [wnA]; done) | (simp only [wnA]; omega) | omega | fail) [wkA, retV, stabOk, dC, ev, fillD, pickCells, putAt, bnd, slD, List.getElem?_cons_zero, List.getElem?_cons_succ, dR_sl, Mem.cell, Mem.row, wmA]
      refine SK_stv (i := m.next) (o := 0) (vs := nodC 1 a b c e (.slice none 0 0)) (cs := nod0) (e := 76) (by simp [wkA, retV, stabOk, dC, ev, fillD, pickCells, putAt, bnd, slD, List.getElem?_cons_zero, List.getElem?_cons_succ, dR_sl]) hbs2.g (by simp [wkA, retV, stabOk, dC, ev, fillD, pickCells, putAt, bnd, slD, List.getElem?_cons_zero, List.getElem?_cons_succ, dR_sl, nodC]) (by simp [nod0]) rfl rfl ?_
      simp -implicitDefEqProofs (disch := first | assumption | (simp only [wnA]; done) | (simp only [wnA]; omega) | omega | fail) [wkA, retV, stabOk, dC, ev, fillD, pickCells, putAt, bnd, slD, List.getElem?_cons_zero, List.getElem?_cons_succ, dR_sl, Mem.cell, Mem.row, wmA]
      exact hbs2.ret (t := [91, 94, 97, 45, 98, 93]) hq (fun c hc => by simp at hc; rcases hc with rfl | rfl | rfl | rfl | rfl | rfl <;> decide) (by simp; omega) ⟨rfl, rfl⟩ (by simp) (by simp) (by simp)
end Go.Proofs.YtjlicambfepfiaaGreatDoor.Ab

set_option linter.unusedVariables false
set_option linter.unusedSimpArgs false
namespace Go.Proofs.YtjlicambfepfiaaGreatDoor.Ab
open Go Go.RowKit
set_option maxHeartbeats 4000000
set_option maxRecDepth 100000
theorem build_ok : BuildOk 2 := c_buildS (by omega) (c_buildS (by omega) fun w0 m v ns Q hv hvb hl hq => c_build0 hv hvb hl hq)
theorem c_Make {w0 : World} {m : Mem} {v : Value} {ns : List UInt8} {Q : Value → Mem → Prop} (hv : SlR m 1 v (ns.map byteV) ns.length) (hvb : ∀ b, blk v = some b → b < m.next) (hl : ns.length ≤ maxLen)
    (hq : ∀ m' t nd, Old m m' → SafeL t → t.length ≤ 39 → Nod nd → Q (.tuple ⟨[.string ⟨⟨t⟩⟩, nd]⟩) m') : AbC Tryz.prog w0 34 [v, .int .i64 2] m Q := by
  refine AbC_fn ok34 (by simp) ?_
  simp -implicitDefEqProofs (disch := first | assumption | (simp only [wnA]; done) | (simp only [wnA]; omega) | omega | fail) [rc34, ro34, wkA, retV, stabOk, dC, ev, fillD, pickCells, putAt, bnd, slD, List.getElem?_cons_zero, List.getElem?_cons_succ, dR.eq_20, Mem.cell, Mem.row, wmA]
  obtain ⟨m1, hm1⟩ : ∃ m1, m.push (.own nod0 76) = m1 := ⟨_, rfl⟩
  have o1 : Old m m1 := by subst hm1; exact (Old.refl m).push _
  have g1 : m1.get m.next = .own nod0 76 := by subst hm1; rw [Mem.push_same]
  have n1 : m.next < m1.next := by subst hm1; simp
  have hm1' : m.push (.own [.int .i64 0, .int .u64 0, .int .u64 0, .int .u64 0, .int .u64 0, .slice none 0 0] 76) = m1 := hm1
  rw [hm1']
  refine build_ok w0 m1 v ns _ (hv.keep fun b hb => o1.2 b (hvb b hb)) (fun b hb => Nat.lt_of_lt_of_le (hvb b hb) o1.1) hl ?_
  intro m2 t nd v2 ns2 o2 ht htl hnd sv2 sb2 hn2
  obtain ⟨k, a, b, c, e, s, rfl, hs1, hs2⟩ := hnd
  have g2 := (o2.2 _ n1).trans g1
  simp -implicitDefEqProofs (disch := first | assumption | (simp only [wnA]; done) | (simp only [wnA]; omega) | omega | fail) [wkA, retV, stabOk, dC, ev, fillD, pickCells, putAt, bnd, slD, List.getElem?_cons_zero, List.getElem?_cons_succ, dR.eq_20, Mem.cell, Mem.row, wmA]
  obtain ⟨M3, hM3⟩ : ∃ M, (m2.push (.own nod0 76)).set m2.next (.own (nodC k a b c e s) 76) = M := ⟨_, rfl⟩
  refine SK_stm (i := m2.next) (o := 0) (vs := nodC k a b c e s) (cs := nod0) (e := 76) (M := M3) (by simp [wkA, retV, stabOk, dC, ev, fillD, pickCells, putAt, bnd, slD, List.getElem?_cons_zero, List.getElem?_cons_succ, dR.eq_20]) (by simp -implicitDefEqProofs (disch := first | assumption | (simp only [wnA]; done) | (simp only [wnA]; omega) | omega | fail) [wkA, retV, stabOk, dC, ev, fillD, pickCells, putAt, bnd, slD, List.getElem?_cons_zero, List.getElem?_cons_succ, dR.eq_20, Mem.cell, Mem.row, wmA, nod0]) (by simp [wkA, retV, stabOk, dC, ev, fillD, pickCells, putAt, bnd, slD, List.getElem?_cons_zero, List.getElem?_cons_succ, dR.eq_20]) (by simp [nod0]) rfl (by simp only [nodC, List.all_cons, List.all_nil, hs1]; rfl) hM3 ?_
  have o3 : Old m2 M3 := by subst hM3; exact ((Old.refl m2).push _).set (Nat.le_refl _) _
  have g3 : M3.get m2.next = .own (nodC k a b c e s) 76 := by subst hM3; rw [Mem.set_same]
  have g3' := (o3.2 _ (Nat.lt_of_lt_of_le n1 o2.1)).trans g2
  clear hM3
  simp only [nodC] at g3
  simp -implicitDefEqProofs (disch := first | assumption | (simp only [wnA]; done) | (simp only [wnA]; omega) | omega | fail) [wkA, retV, stabOk, dC, ev, fillD, pickCells, putAt, bnd, slD, List.getElem?_cons_zero, List.getElem?_cons_succ, dR.eq_20, Mem.cell, Mem.row, wmA, g3]
  refine SK_stv (i := m.next) (o := 0) (vs := nodC k a b c e s) (cs := nod0) (e := 76) (by simp [wkA, retV, stabOk, dC, ev, fillD, pickCells, putAt, bnd, slD, List.getElem?_cons_zero, List.getElem?_cons_succ, dR.eq_20]) g3' (by simp [wkA, retV, stabOk, dC, ev, fillD, pickCells, putAt, bnd, slD, List.getElem?_cons_zero, List.getElem?_cons_succ, dR.eq_20, nodC]) (by simp [nod0]) rfl (by simp only [nodC, List.all_cons, List.all_nil, hs1]; rfl) ?_
  have o4 := ((o1.trans o2).trans o3).set (Nat.le_refl m.next) (.own (nodC k a b c e s) 76)
  have h := hq _ t (.agg ⟨nodC k a b c e s⟩) o4 ht htl ⟨k, a, b, c, e, s, rfl, hs1, hs2⟩
  simp -implicitDefEqProofs (disch := first | assumption | (simp only [wnA]; done) | (simp only [wnA]; omega) | omega | fail) [wkA, retV, stabOk, dC, ev, fillD, pickCells, putAt, bnd, slD, List.getElem?_cons_zero, List.getElem?_cons_succ, dR.eq_20, Mem.cell, Mem.row, wmA, nod0, nodC]
  simpa [nodC] using h
theorem lab_enc : ∀ k : Fin 26, Utf8.encode (IntKind.i32.wrap (IntKind.i64.wrap (97 + (k.val : Int)))) = ⟨⟨[UInt8.ofNat (97 + k.val)]⟩⟩ := by decide +kernel
theorem lab_ok : ∀ k : Fin 26, wordN false [115, UInt8.ofNat (97 + k.val)] = 2 := by decide +kernel
theorem c_label {w0 : World} {m : Mem} {k : Nat} (hk : k < 26) {Q : Value → Mem → Prop} (hq : Q (.string ⟨⟨[115, UInt8.ofNat (97 + k)]⟩⟩) m) : AbC Tryz.prog w0 33 [.int .i64 (k : Int)] m Q := by
  refine AbC_fn ok33 (by simp) ?_
  have he := lab_enc ⟨k, hk⟩
  simp only at he
  have c1 := cat2 (a := [115]) (b := [UInt8.ofNat (97 + k)]) (by simp)
  simp only [List.cons_append, List.nil_append] at c1
  generalize UInt8.ofNat (97 + k) = c at *
  simp -implicitDefEqProofs (disch := first | assumption | (simp only [wnA]; done) | (simp only [wnA]; omega) | omega | fail) [rc33, ro33, wkA, retV, stabOk, dC, ev, fillD, pickCells, putAt, bnd, slD, List.getElem?_cons_zero, List.getElem?_cons_succ, dR.eq_20, Mem.cell, Mem.row, wmA, he, c1]
  exact hq
theorem wd_label {k : Nat} (hk : k < 26) : WordOk [115, UInt8.ofNat (97 + k)] := ⟨⟨_, _, rfl, rfl⟩, lab_ok ⟨k, hk⟩⟩
end Go.Proofs.YtjlicambfepfiaaGreatDoor.Ab

set_option linter.unusedVariables false
set_option linter.unusedSimpArgs false
namespace Go.Proofs.YtjlicambfepfiaaGreatDoor.Ab
open Go Go.RowKit
set_option maxHeartbeats 1000000
set_option maxRecDepth 100000
/-- These tokens stand at a place. -/
def At (ts : List (Tk × Nat)) (k : Nat) (T : List Tk) : Prop := ∃ rest, (ts.map (·.1)).drop k = T ++ rest
theorem At.hd {ts : List (Tk × Nat)} {k : Nat} {t : Tk} {T : List Tk} (h : At ts k (t :: T)) : (ts.getD k tok0).1 = t ∧ At ts (k + 1) T ∧ k < ts.length := by
  obtain ⟨rest, hr⟩ := h
  have hk : k < (ts.map (·.1)).length := by
    rcases Nat.lt_or_ge k (ts.map (·.1)).length with h | h
    · exact h
    · rw [List.drop_eq_nil_of_le h] at hr; cases hr
  rw [List.drop_eq_getElem_cons hk] at hr
  have hk' : k < ts.length := by simpa using hk
  refine ⟨?_, ⟨rest, (List.cons.inj hr).2⟩, hk'⟩
  have := (List.cons.inj hr).1
  rw [List.getElem_map] at this
  rw [← this]
  simp [List.getD, List.getElem?_eq_getElem hk']
theorem At.app {ts : List (Tk × Nat)} {k : Nat} {A B : List Tk} (h : At ts k (A ++ B)) : At ts k A ∧ At ts (k + A.length) B := by
  obtain ⟨rest, hr⟩ := h
  refine ⟨⟨B ++ rest, by rw [hr]; simp⟩, ⟨rest, ?_⟩⟩
  rw [← List.drop_drop, hr]
  simp
theorem At.len {ts : List (Tk × Nat)} {k : Nat} {T : List Tk} (h : At ts k T) : T.length ≤ ts.length := by
  obtain ⟨rest, hr⟩ := h
  have := congrArg List.length hr
  simp at this
  omega
end Go.Proofs.YtjlicambfepfiaaGreatDoor.Ab

set_option linter.unusedVariables false
set_option linter.unusedSimpArgs false
namespace Go.Proofs.YtjlicambfepfiaaGreatDoor.Ab
open Go Go.RowKit
set_option maxHeartbeats 1000000
set_option maxRecDepth 100000
/-- A step that is right, and how much it has. -/
def WFS (N : Nat) (d : DS) : Prop := WFd d ∧ d.lb.length ≤ N ∧ d.tx.length ≤ N ∧ d.to.length ≤ N ∧ (∀ a ∈ d.arms, a.pat.length ≤ N ∧ a.to.length ≤ N) ∧ d.arms.length ≤ N
end Go.Proofs.YtjlicambfepfiaaGreatDoor.Ab

set_option linter.unusedVariables false
set_option linter.unusedSimpArgs false
namespace Go.Proofs.YtjlicambfepfiaaGreatDoor.Ab
open Go Go.RowKit
set_option maxHeartbeats 4000000
set_option maxRecDepth 100000
/-- A step by numbers. -/
structure Ac7 where
  lb : Bool
  kd : UInt8
  tx : UInt8
  av : Value
  pats : List (Value × List UInt8)
  n : UInt8
  to : UInt8
def acC (a : Ac7) : List Value := [.bool a.lb, byteV a.kd, byteV a.tx, a.av, byteV a.n, byteV a.to]
theorem acC_len (a : Ac7) : (acC a).length = 6 := rfl
structure AcV (m : Mem) (a : Ac7) : Prop where
  sl : SlR m 1 a.av (a.pats.map Prod.fst) a.pats.length
  bl : ∀ b, blk a.av = some b → b < m.next
  ps : ∀ p ∈ a.pats, SlR m 1 p.1 (p.2.map byteV) p.2.length ∧ (∀ b, blk p.1 = some b → b < m.next) ∧ p.2.length ≤ maxLen
theorem AcV.old {m m' : Mem} {a : Ac7} (h : AcV m a) (o : Old m m') : AcV m' a :=
  ⟨h.sl.keep fun b hb => o.2 b (h.bl b hb), fun b hb => Nat.lt_of_lt_of_le (h.bl b hb) o.1, fun p hp => ⟨(h.ps p hp).1.keep fun b hb => o.2 b ((h.ps p hp).2.1 b hb), fun b hb => Nat.lt_of_lt_of_le ((h.ps p hp).2.1 b hb) o.1, (h.ps p hp).2.2⟩⟩
/-- While a step is made. -/
structure T4 (base m : Mem) (i7 : Nat) (d : DS) (ob : Option Nat) : Prop where
  o : Old base m
  n7 : base.next ≤ i7
  m7 : i7 < m.next
  g7 : m.get i7 = .own (dsC d (slV ob d.arms.length 2)) 29
  so : SlO m 49 2 ob (d.arms.flatMap Arm.cells) d.arms.length
  hob : ∀ i, ob = some i → base.next ≤ i
theorem T4.old {base m m' : Mem} {i7 : Nat} {d : DS} {ob : Option Nat} (h : T4 base m i7 d ob) (o : Old m m') : T4 base m' i7 d ob :=
  ⟨h.o.trans o, h.n7, Nat.lt_of_lt_of_le h.m7 o.1, (o.2 _ h.m7).trans h.g7, h.so.keep o.1 fun b hb => o.2 b (by subst hb; exact h.so.lt), h.hob⟩
theorem T4.store {w0 : World} {fr : Fr} {R : Value → Mem → Prop} {base m : Mem} {i7 : Nat} {d : DS} {ob : Option Nat} (h : T4 base m i7 d ob) (d' : DS) (j : Nat) (v : Value) {p x : Operand}
    (hp : ev fr p = .pointer (some ⟨i7, j, none⟩)) (hv : cellsV (ev fr x) = [v]) (hd : d'.arms = d.arms) (hc : putAt (dsC d (slV ob d.arms.length 2)) j [v] = dsC d' (slV ob d.arms.length 2)) (hj : j + 1 ≤ 7) (ho : oneC v = true)
    (hR : ∀ M, T4 base M i7 d' ob → (∀ i, i ≠ i7 → M.get i = m.get i) → M.next = m.next → R undef M) : SK Tryz.prog w0 (.e (.st 1 p x)) fr m R := by
  refine SK_stv (i := i7) (o := j) (vs := [v]) hp h.g7 hv hj rfl (by simp only [List.all_cons, List.all_nil, ho]; rfl) ?_
  rw [hc]
  refine hR _ ⟨h.o.set h.n7 _, h.n7, h.m7, by rw [Mem.set_same, hd], ?_, h.hob⟩ (fun i hi => Mem.set_other _ _ hi) rfl
  rw [hd]
  exact h.so.set (h.so.ne h.g7 (by intro c hc; cases hc)) _
end Go.Proofs.YtjlicambfepfiaaGreatDoor.Ab

set_option linter.unusedVariables false
set_option linter.unusedSimpArgs false
namespace Go.Proofs.YtjlicambfepfiaaGreatDoor.Ab
open Go Go.RowKit
set_option maxHeartbeats 4000000
set_option maxRecDepth 100000
/-- An arm by numbers is right. -/
def ArmG (a : Arm) : Prop := SafeL a.pat ∧ WordOk a.to ∧ a.pat.length ≤ 40 ∧ a.to.length ≤ 2
theorem T4.app {base m : Mem} {i7 : Nat} {d : DS} {ob : Option Nat} (h : T4 base m i7 d ob) (x : Arm) :
    T4 base (((m.kill ob).push (.own (d.arms.flatMap Arm.cells ++ x.cells) 49)).set i7 (.own (putAt (dsC d (slV ob d.arms.length 2)) 3 [slV (some m.next) (d.arms.length + 1) 2]) 29)) i7 { d with arms := d.arms ++ [x] } (some m.next) := by
  have hne : ob ≠ some i7 := h.so.ne h.g7 (by intro c hc; cases hc)
  have hlt := h.m7
  have hx : x.cells.length = 2 := rfl
  refine ⟨((h.o.kill h.hob).push _).set h.n7 _, h.n7, by simp [Mem.kill_nxt]; omega, ?_, ⟨?_, ?_, ?_⟩, ?_⟩
  · rw [Mem.set_same, List.length_append]; rfl
  · have := h.so.1
    simp only [List.flatMap_append, List.flatMap_cons, List.flatMap_nil, List.append_nil, List.length_append, List.length_cons, List.length_nil, hx, this]
    omega
  · rw [Mem.set_other _ _ (by omega), Mem.push_at _ _ (by simp [Mem.kill_nxt])]
    simp
  · simp [Mem.kill_nxt]
  · rintro i hi
    cases hi
    exact h.o.1
theorem w_pats {w0 : World} {Q : AQ} {fr : Fr} {base m : Mem} {i6 i7 : Nat} {a : Ac7} {d : DS} {n : Nat} (ha : AcV m a) (hl : a.pats.length ≤ maxLen) (h : T4 base m i7 d none) (hd : d.arms = []) (hn : 0 < n ∧ n ≤ 12)
    (g6 : m.get i6 = .own (acC a) 69) (n6 : i6 < m.next)
    (hab : ∀ b, blk a.av = some b → b ≠ i7) (hpb : ∀ p ∈ a.pats, ∀ b, blk p.1 = some b → b ≠ i7)
    (f3 : fr 3 = .int .i64 (n : Nat)) (f6 : fr 6 = .pointer (some ⟨i6, 0, none⟩)) (f7 : fr 7 = .pointer (some ⟨i7, 0, none⟩)) (f60 : fr 60 = a.av) (f61 : fr 61 = .int .i64 (a.pats.length : Nat)) (f62 : fr 62 = .int .i64 0)
    (hq : ∀ fr' m' al ob, Kept i7 m m' → T4 base m' i7 { d with arms := al } ob → (∀ i, ob = some i → m.next ≤ i) → (∀ x ∈ al, ArmG x) → al.length ≤ 3 → (∀ k ∈ [3, 4, 6, 7, 8, 18, 19, 20], fr' k = fr k) → Q .normal fr' m') : LoopW (AbW Tryz.prog w0 rc13_3) (inBlockA 3 Q) fr m := by
  refine LoopW_of (fun k ts m' => ∃ j al ob, j + k = a.pats.length ∧ Kept i7 m m' ∧ T4 base m' i7 { d with arms := al } ob ∧ (∀ i, ob = some i → m.next ≤ i) ∧ (∀ x ∈ al, ArmG x) ∧ al.length ≤ min j 3 ∧ (∀ k ∈ [3, 4, 6, 7, 8, 18, 19, 20], ts k = fr k) ∧ ts 60 = a.av ∧ ts 61 = .int .i64 (a.pats.length : Nat) ∧ ts 62 = .int .i64 (j : Nat)) a.pats.length ?_ ?_
  · exact ⟨0, [], none, by omega, Kept.refl _ _, by rw [← hd]; exact h, (fun i hi => by cases hi), (fun x hx => by cases hx), by simp, fun k _ => rfl, f60, f61, f62⟩
  · rintro k ts m1 K ⟨j, al, ob, hj, k1, h1, hob1, hA, hal, sm, t60, t61, t62⟩ hK
    simp -implicitDefEqProofs (disch := first | assumption | (simp only [wnA]; done) | (simp only [wnA]; omega) | omega | fail) [rc13_3, wkA, retV, stabOk, dC, ev, fillD, pickCells, putAt, bnd, slD, List.getElem?_cons_zero, List.getElem?_cons_succ, dR_sl, Mem.cell, Mem.row, wmA, t61, t62]
    by_cases hjl : j < a.pats.length
    · have hpm : a.pats[j] ∈ a.pats := List.getElem_mem hjl
      obtain ⟨bi, bo, L, hvv, hL, hLl, -, hLc⟩ := (ha.sl.keep fun b hb => k1.2 b (ha.bl b hb) (hab b hb) : SlR m1 1 a.av (a.pats.map Prod.fst) a.pats.length).at hjl
      have hc := hLc 0 (by omega)
      obtain ⟨hps, hpl, hpn⟩ := ha.ps _ hpm
      have hpb1 := hpb _ hpm
      simp only [Nat.mul_one, Nat.add_zero, List.getElem?_map, List.getElem?_eq_getElem hjl, Option.map_some] at hc
      obtain ⟨⟨pv, ns⟩, hx⟩ : ∃ x, a.pats[j] = x := ⟨_, rfl⟩
      rw [hx] at hc hps hpl hpn hpb1
      simp only at hc hps hpl hpn hpb1
      rw [hvv] at t60
      have hjw : IntKind.i64.wrap ((j : Int) + 1) = ((j + 1 : Nat) : Int) := by simp only [maxLen] at hl; rw [w64 (by omega)]; omega
      have e3 := (sm 3 (by simp)).trans f3
      have e6 := (sm 6 (by simp)).trans f6
      have e7 := (sm 7 (by simp)).trans f7
      simp -implicitDefEqProofs (disch := first | assumption | (simp only [wnA]; done) | (simp only [wnA]; omega) | omega | fail) [hjl, rc13_2, wkA, retV, stabOk, dC, ev, fillD, pickCells, putAt, bnd, slD, List.getElem?_cons_zero, List.getElem?_cons_succ, dR_sl, Mem.cell, Mem.row, wmA, t60, t62, sidx_at, hL, hc, getL hc]
      by_cases h3 : j < 3
      · have h3' : (j : Int) < 3 := by omega
        simp -implicitDefEqProofs (disch := first | assumption | (simp only [wnA]; done) | (simp only [wnA]; omega) | omega | fail) [wkA, retV, stabOk, dC, ev, fillD, pickCells, putAt, bnd, slD, List.getElem?_cons_zero, List.getElem?_cons_succ, dR_sl, Mem.cell, Mem.row, wmA, ltT h3', h3]
        refine c_Make (ns := ns) (hps.keep fun b hb => k1.2 b (hpl b hb) (hpb1 b hb)) (fun b hb => Nat.lt_of_lt_of_le (hpl b hb) k1.1) hpn fun m2 t nd o2 ht htl hnd => ?_
        obtain ⟨nk, na, nb, nc, ne, ns', rfl, hs1, hs2⟩ := hnd
        simp -implicitDefEqProofs (disch := first | assumption | (simp only [wnA]; done) | (simp only [wnA]; omega) | omega | fail) [wkA, retV, stabOk, dC, ev, fillD, pickCells, putAt, bnd, slD, List.getElem?_cons_zero, List.getElem?_cons_succ, dR_sl, Mem.cell, Mem.row, wmA]
        obtain ⟨M3, hM3⟩ : ∃ M, (m2.push (.own nod0 76)).set m2.next (.own (nodC nk na nb nc ne ns') 76) = M := ⟨_, rfl⟩
        refine SK_stm (i := m2.next) (o := 0) (vs := nodC nk na nb nc ne ns') (cs := nod0) (e := 76) (M := M3) (by simp [wkA, retV, stabOk, dC, ev, fillD, pickCells, putAt, bnd, slD, List.getElem?_cons_zero, List.getElem?_cons_succ, dR_sl]) (by simp -implicitDefEqProofs (disch := first | assumption | (simp only [wnA]; done) | (simp only [wnA]; omega) | omega | fail) [wkA, retV, stabOk, dC, ev, fillD, pickCells, putAt, bnd, slD, List.getElem?_cons_zero, List.getElem?_cons_succ, dR_sl, Mem.cell, Mem.row, wmA, nod0]) (by simp [wkA, retV, stabOk, dC, ev, fillD, pickCells, putAt, bnd, slD, List.getElem?_cons_zero, List.getElem?_cons_succ, dR_sl]) (by simp [nod0]) rfl (by simp only [nodC, List.all_cons, List.all_nil, hs1]; rfl) hM3 ?_
        have o3 : Old m2 M3 := by subst hM3; exact ((Old.refl m2).push _).set (Nat.le_refl _) _
        clear hM3
        have h3T := (h1.old o2).old o3
        have k3 : Kept i7 m M3 := k1.trans (o2.trans o3).kept
        have hn67 : i6 ≠ i7 := fun e => by
          have := h.g7
          rw [← e, g6] at this
          cases this
        have g63 : M3.get i6 = .own [.bool a.lb, .int .u8 (a.kd.toNat : Int), .int .u8 (a.tx.toNat : Int), a.av, .int .u8 (a.n.toNat : Int), .int .u8 (a.to.toNat : Int)] 69 := (k3.2 i6 n6 hn67).trans g6
        have g73 := h3T.g7
        simp only [dsC] at g73
        have htoL : a.to.toNat < 256 := a.to.toNat_lt
        have hr : dBin .rem (.int .i64 (IntKind.i64.wrap (IntKind.i64.wrap (a.to.toNat : Int) + (j : Int)))) (.int .i64 (n : Int)) = some (.int .i64 (((a.to.toNat + j) % n : Nat) : Int)) := by
          rw [w64 (show -9223372036854775808 ≤ (a.to.toNat : Int) ∧ (a.to.toNat : Int) ≤ 9223372036854775807 by omega), w64 (by omega), dBin_rem (by omega), Int.tmod_eq_emod_of_nonneg (by omega)]
          rfl
        have hrn : (a.to.toNat + j) % n < 26 := Nat.lt_of_lt_of_le (Nat.mod_lt _ hn.1) (by omega)
        generalize (a.to.toNat + j) % n = r at *
        simp -implicitDefEqProofs (disch := first | assumption | (simp only [wnA]; done) | (simp only [wnA]; omega) | omega | (simp only [List.length_append, List.length_cons, List.length_nil]; omega) | fail) [wkA, retV, stabOk, dC, ev, fillD, pickCells, putAt, bnd, slD, List.getElem?_cons_zero, List.getElem?_cons_succ, dR_sl, Mem.cell, Mem.row, wmA, e3, e6, e7, g63, g73, cat2, hr]
        refine c_label hrn ?_
        have hwl := wd_label hrn
        generalize UInt8.ofNat (97 + r) = rc at *
        simp -implicitDefEqProofs (disch := first | assumption | (simp only [wnA]; done) | (simp only [wnA]; omega) | omega | (simp only [List.length_append, List.length_cons, List.length_nil]; omega) | fail) [wkA, retV, stabOk, dC, ev, fillD, pickCells, putAt, bnd, slD, List.getElem?_cons_zero, List.getElem?_cons_succ, dR_sl, Mem.cell, Mem.row, wmA, e3, e6, e7, g63, g73, cat2]
        rw [SK_bsl (cs := [.string ⟨⟨98 :: t⟩⟩, .string ⟨⟨[115, rc]⟩⟩]) (by simp [wkA, retV, stabOk, dC, ev, fillD, pickCells, putAt, bnd, slD, List.getElem?_cons_zero, List.getElem?_cons_succ, dR_sl]) (by simp)]
        obtain ⟨M4, hM4⟩ : ∃ M, M3.push (.own [.string ⟨⟨98 :: t⟩⟩, .string ⟨⟨[115, rc]⟩⟩] 49) = M := ⟨_, rfl⟩
        have o4 : Old M3 M4 := by subst hM4; exact (Old.refl M3).push _
        have g4 : M4.get M3.next = .own [.string ⟨⟨98 :: t⟩⟩, .string ⟨⟨[115, rc]⟩⟩] 49 := by subst hM4; rw [Mem.push_same]
        rw [hM4]
        clear hM4
        have h4T := h3T.old o4
        have g74 := h4T.g7
        simp only [dsC] at g74
        simp -implicitDefEqProofs (disch := first | assumption | (simp only [wnA]; done) | (simp only [wnA]; omega) | omega | (simp only [List.length_append, List.length_cons, List.length_nil]; omega) | fail) [wkA, retV, stabOk, dC, ev, fillD, pickCells, putAt, bnd, slD, List.getElem?_cons_zero, List.getElem?_cons_succ, dR_sl, Mem.cell, Mem.row, wmA, e7, g74]
        have so4 : SlO M4 49 2 ob (al.flatMap Arm.cells) al.length := h4T.so
        refine SK_ap (ob := ob) (n := al.length) (k := 1) (cs := al.flatMap Arm.cells) (ys := [.string ⟨⟨98 :: t⟩⟩, .string ⟨⟨[115, rc]⟩⟩]) so4 (by simp [wkA, retV, stabOk, dC, ev, fillD, pickCells, putAt, bnd, slD, List.getElem?_cons_zero, List.getElem?_cons_succ, dR_sl]) (by simp -implicitDefEqProofs (disch := first | assumption | (simp only [wnA]; done) | (simp only [wnA]; omega) | omega | fail) [wkA, retV, stabOk, dC, ev, fillD, pickCells, putAt, bnd, slD, List.getElem?_cons_zero, List.getElem?_cons_succ, dR_sl, elemsV, Mem.cell, Mem.row, wmA, g4]) (by simp [wkA, retV, stabOk, dC, ev, fillD, pickCells, putAt, bnd, slD, List.getElem?_cons_zero, List.getElem?_cons_succ, dR_sl]) (by omega) rfl (by omega) (by simp only [maxLen]; omega) rfl ?_
        obtain ⟨M5, hM5⟩ : ∃ M, (M4.kill ob).push (.own (al.flatMap Arm.cells ++ [.string ⟨⟨98 :: t⟩⟩, .string ⟨⟨[115, rc]⟩⟩]) 49) = M := ⟨_, rfl⟩
        have g75 : M5.get i7 = .own (dsC { d with arms := al } (slV ob al.length 2)) 29 := by
          subst hM5
          have := h4T.m7
          rw [Mem.push_old _ _ (by rw [Mem.kill_nxt]; exact this), Mem.kill_other _ (h4T.so.ne h4T.g7 (by intro c hc; cases hc))]
          exact h4T.g7
        have k4 : Kept i7 m M4 := k3.trans o4.kept
        have k5 : Kept i7 m M5 := by
          subst hM5
          refine ⟨by simp only [Mem.push_nxt, Mem.kill_nxt]; have := k4.1; omega, fun i hi hn => ?_⟩
          have := k4.1
          rw [Mem.push_old _ _ (by rw [Mem.kill_nxt]; omega), Mem.kill_other _ (fun e => by have := hob1 i e; omega)]
          exact k4.2 i hi hn
        have hT5 : T4 base (M5.set i7 (.own (putAt (dsC { d with arms := al } (slV ob al.length 2)) 3 [slV (some M4.next) (al.length + 1) 2]) 29)) i7 { d with arms := al ++ [⟨98 :: t, [115, rc]⟩] } (some M4.next) := by subst hM5; exact h4T.app ⟨98 :: t, [115, rc]⟩
        have hm4 : m.next ≤ M4.next := k4.1
        obtain ⟨M6, hM6⟩ : ∃ M, M5.set i7 (.own (putAt (dsC { d with arms := al } (slV ob al.length 2)) 3 [slV (some M4.next) (al.length + 1) 2]) 29) = M := ⟨_, rfl⟩
        rw [hM6] at hT5
        have k6 : Kept i7 m M6 := by subst hM6; exact k5.trans ⟨by simp, fun i hi hn => Mem.set_other _ _ hn⟩
        rw [hM5]
        simp -implicitDefEqProofs (disch := first | assumption | (simp only [wnA]; done) | (simp only [wnA]; omega) | omega | (simp only [List.length_append, List.length_cons, List.length_nil]; omega) | fail) [wkA, retV, stabOk, dC, ev, fillD, pickCells, putAt, bnd, slD, List.getElem?_cons_zero, List.getElem?_cons_succ, dR_sl, Mem.cell, Mem.row, wmA, e7]
        refine SK_stm (i := i7) (o := 3) (vs := [slV (some M4.next) (al.length + 1) 2]) (cs := dsC { d with arms := al } (slV ob al.length 2)) (e := 29) (M := M6) (by simp [wkA, retV, stabOk, dC, ev, fillD, pickCells, putAt, bnd, slD, List.getElem?_cons_zero, List.getElem?_cons_succ, dR_sl, e7]) g75 (by simp [wkA, retV, stabOk, dC, ev, fillD, pickCells, putAt, bnd, slD, List.getElem?_cons_zero, List.getElem?_cons_succ, dR_sl, slV]) (by simp [dsC]) rfl rfl hM6 ?_
        clear hM6
        simp -implicitDefEqProofs (disch := first | assumption | (simp only [wnA]; done) | (simp only [wnA]; omega) | omega | fail) [wkA, retV, stabOk, dC, ev, fillD, pickCells, putAt, bnd, slD, List.getElem?_cons_zero, List.getElem?_cons_succ, dR_sl, Mem.cell, Mem.row, wmA, t62, hjw]
        refine hK (k - 1) _ _ (by omega) ⟨j + 1, al ++ [⟨98 :: t, [115, rc]⟩], some M4.next, by omega, ?_, hT5, fun i hi => by cases hi; exact hm4, ?_, by simp only [List.length_append, List.length_cons, List.length_nil]; omega, fun q hq => (by
          have := sm q hq
          simp only [List.mem_cons, List.not_mem_nil, or_false] at hq
          rcases hq with rfl | rfl | rfl | rfl | rfl | rfl | rfl | rfl <;> simp [this]), by simp [t60, hvv], by simp [t61], by simp⟩
        · exact k6
        · intro x hx
          rcases List.mem_append.1 hx with hx | hx
          · exact hA x hx
          · simp only [List.mem_singleton] at hx
            subst hx
            exact ⟨SafeL.cons (by decide) ht, hwl, by simp only [List.length_cons]; omega, by simp⟩
      · have h3' : ¬ (j : Int) < 3 := by omega
        simp -implicitDefEqProofs (disch := first | assumption | (simp only [wnA]; done) | (simp only [wnA]; omega) | omega | fail) [wkA, retV, stabOk, dC, ev, fillD, pickCells, putAt, bnd, slD, List.getElem?_cons_zero, List.getElem?_cons_succ, dR_sl, Mem.cell, Mem.row, wmA, h3, h3', t62, hjw]
        exact hK (k - 1) _ _ (by omega) ⟨j + 1, al, ob, by omega, k1, h1, hob1, hA, by omega, fun q hq => (by
          have := sm q hq
          simp only [List.mem_cons, List.not_mem_nil, or_false] at hq
          rcases hq with rfl | rfl | rfl | rfl | rfl | rfl | rfl | rfl <;> simp [this]), by simp [t60, hvv], by simp [t61], by simp⟩
    · simp -implicitDefEqProofs (disch := first | assumption | (simp only [wnA]; done) | (simp only [wnA]; omega) | omega | fail) [hjl, wkA, retV, stabOk, dC, ev, fillD, pickCells, putAt, bnd, slD, List.getElem?_cons_zero, List.getElem?_cons_succ, dR_sl, Mem.cell, Mem.row, wmA]
      exact hq _ m1 al ob k1 h1 hob1 hA (by omega) (fun q hq => by
        have := sm q hq
        simp only [List.mem_cons, List.not_mem_nil, or_false] at hq
        rcases hq with rfl | rfl | rfl | rfl | rfl | rfl | rfl | rfl <;> simp [this])
end Go.Proofs.YtjlicambfepfiaaGreatDoor.Ab

set_option linter.unusedVariables false
set_option linter.unusedSimpArgs false
namespace Go.Proofs.YtjlicambfepfiaaGreatDoor.Ab
open Go Go.RowKit
set_option maxHeartbeats 4000000
set_option maxRecDepth 100000
def findN (s : List UInt8) : List DV → Nat → Int
  | [], _ => -1
  | x :: l, k => if x.1.lb = s ∧ s ≠ [] then (k : Int) else findN s l (k + 1)
theorem findN_at {s : List UInt8} {l : List DV} {j : Nat} (h : j < l.length) : findN s (l.drop j) j = if l[j].1.lb = s ∧ s ≠ [] then (j : Int) else findN s (l.drop (j + 1)) (j + 1) := by
  rw [List.drop_eq_getElem_cons h]
  rfl
theorem c_Find {w0 : World} {m : Mem} {v : Value} {l : List DV} {s : List UInt8} {Q : Value → Mem → Prop} (hv : DsV m v l) (hl : l.length ≤ 1000000) (hq : ∀ m', Old m m' → Q (.int .i64 (findN s l 0)) m') : AbC Tryz.prog w0 14 [v, .string ⟨⟨s⟩⟩] m Q := by
  refine AbC_fn ok14 (by simp) ?_
  simp -implicitDefEqProofs (disch := first | assumption | (simp only [wnA]; done) | (simp only [wnA]; omega) | omega | fail) [rc14, ro14, wkA, retV, stabOk, dC, ev, fillD, pickCells, putAt, bnd, slD, List.getElem?_cons_zero, List.getElem?_cons_succ, dR.eq_20, Mem.cell, Mem.row, wmA, hv.sl.slen]
  refine LoopW_of (fun k ts m' => ∃ j, j + k = l.length ∧ Old m m' ∧ ts 1 = .string ⟨⟨s⟩⟩ ∧ ts 7 = v ∧ ts 8 = .int .i64 (l.length : Nat) ∧ ts 9 = .int .i64 (j : Nat) ∧ findN s (l.drop j) j = findN s l 0) l.length ?_ ?_
  · exact ⟨0, by omega, Old.refl m, by simp [frA_at], by simp [frA_at], by simp, by simp, rfl⟩
  · rintro k ts m1 K ⟨j, hj, o1, t1, t7, t8, t9, hf⟩ hK
    simp -implicitDefEqProofs (disch := first | assumption | (simp only [wnA]; done) | (simp only [wnA]; omega) | omega | fail) [rc14_1, wkA, retV, stabOk, dC, ev, fillD, pickCells, putAt, bnd, slD, List.getElem?_cons_zero, List.getElem?_cons_succ, dR.eq_20, Mem.cell, Mem.row, wmA, t8, t9]
    by_cases hjl : j < l.length
    · have hv1 := hv.old o1
      obtain ⟨bi, bo, L, hvv, hL, hLl, hLt, -⟩ := hv1.sl.at hjl
      rw [flat_at vC_len l (List.getElem?_eq_getElem hjl)] at hLt
      rw [findN_at hjl] at hf
      obtain ⟨x, hx⟩ : ∃ x, l[j] = x := ⟨_, rfl⟩
      have hone := (hv1.ar x (by rw [← hx]; exact List.getElem_mem hjl)).sl.one
      rw [hx] at hLt hf
      rw [hvv] at t7
      have hle : bo + j * 7 + 7 ≤ L.length := by omega
      have hjw : IntKind.i64.wrap ((j : Int) + 1) = ((j + 1 : Nat) : Int) := by rw [w64 (by omega)]; omega
      obtain ⟨M, hM⟩ : ∃ M, (m1.push (.own [.string ⟨#[]⟩, .int .i64 0, .string ⟨#[]⟩, .slice none 0 0, .int .i64 0, .string ⟨#[]⟩, .int .i64 0] 29)).set m1.next (.own (putAt [.string ⟨#[]⟩, .int .i64 0, .string ⟨#[]⟩, .slice none 0 0, .int .i64 0, .string ⟨#[]⟩, .int .i64 0] 0 (vC x)) 29) = M := ⟨_, rfl⟩
      have oM : Old m1 M := by subst hM; exact ((Old.refl m1).push _).set (Nat.le_refl _) _
      have gM : M.get m1.next = .own (dsC x.1 x.2) 29 := by subst hM; rw [Mem.set_same]; rfl
      obtain ⟨⟨lb, kd, tx, arms, n, to, pl⟩, av⟩ := x
      have gx : M.get m1.next = .own [.string ⟨⟨lb⟩⟩, .int .i64 kd, .string ⟨⟨tx⟩⟩, av, .int .i64 n, .string ⟨⟨to⟩⟩, .int .i64 pl] 29 := gM
      have hLt : (L.drop (bo + j * 7)).take 7 = [.string ⟨⟨lb⟩⟩, .int .i64 kd, .string ⟨⟨tx⟩⟩, av, .int .i64 n, .string ⟨⟨to⟩⟩, .int .i64 pl] := hLt
      simp only at hf
      simp -implicitDefEqProofs (disch := first | assumption | (simp only [wnA]; done) | (simp only [wnA]; omega) | omega | fail) [hjl, rc14_0, wkA, retV, stabOk, dC, ev, fillD, pickCells, putAt, bnd, slD, List.getElem?_cons_zero, List.getElem?_cons_succ, dR.eq_20, Mem.cell, Mem.row, wmA, t1, t7, t8, t9, sidx_at, hL, hLt, hle]
      refine SK_stm (i := m1.next) (o := 0) (vs := vC (⟨lb, kd, tx, arms, n, to, pl⟩, av)) (cs := [.string ⟨#[]⟩, .int .i64 0, .string ⟨#[]⟩, .slice none 0 0, .int .i64 0, .string ⟨#[]⟩, .int .i64 0]) (e := 29) (M := M) (by simp [wkA, retV, stabOk, dC, ev, fillD, pickCells, putAt, bnd, slD, List.getElem?_cons_zero, List.getElem?_cons_succ, dR.eq_20]) (by simp -implicitDefEqProofs (disch := first | assumption | (simp only [wnA]; done) | (simp only [wnA]; omega) | omega | fail) [wkA, retV, stabOk, dC, ev, fillD, pickCells, putAt, bnd, slD, List.getElem?_cons_zero, List.getElem?_cons_succ, dR.eq_20, Mem.cell, Mem.row, wmA]) (by simp [wkA, retV, stabOk, dC, ev, fillD, pickCells, putAt, bnd, slD, List.getElem?_cons_zero, List.getElem?_cons_succ, dR.eq_20, vC, dsC]) (by simp) rfl (by simp only [vC, dsC, List.all_cons, List.all_nil, hone.1]; rfl) hM ?_
      clear hM
      by_cases h1 : lb = s
      · by_cases h2 : s = []
        · subst h1 h2
          rw [if_neg (by simp)] at hf
          simp -implicitDefEqProofs (disch := first | assumption | (simp only [wnA]; done) | (simp only [wnA]; omega) | omega | fail) [wkA, retV, stabOk, dC, ev, fillD, pickCells, putAt, bnd, slD, List.getElem?_cons_zero, List.getElem?_cons_succ, dR.eq_20, Mem.cell, Mem.row, wmA, gx, t1, t9, hjw]
          exact hK (k - 1) _ _ (by omega) ⟨j + 1, by omega, o1.trans oM, by simp [t1], by simp [t7, hvv], by simp [t8], by simp, hf⟩
        · rw [if_pos ⟨h1, h2⟩] at hf
          have hb0 : s.isEmpty = false := by cases s <;> simp at h2 ⊢
          simp -implicitDefEqProofs (disch := first | assumption | (simp only [wnA]; done) | (simp only [wnA]; omega) | omega | fail) [wkA, retV, stabOk, dC, ev, fillD, pickCells, putAt, bnd, slD, List.getElem?_cons_zero, List.getElem?_cons_succ, dR.eq_20, Mem.cell, Mem.row, wmA, gx, t1, t9, hjw, h1, hb0, h2]
          rw [hf]
          exact hq M (o1.trans oM)
      · rw [if_neg (fun h => h1 h.1)] at hf
        have hb1 : (lb == s) = false := by simpa using h1
        simp -implicitDefEqProofs (disch := first | assumption | (simp only [wnA]; done) | (simp only [wnA]; omega) | omega | fail) [wkA, retV, stabOk, dC, ev, fillD, pickCells, putAt, bnd, slD, List.getElem?_cons_zero, List.getElem?_cons_succ, dR.eq_20, Mem.cell, Mem.row, wmA, gx, t1, t9, hjw, hb1]
        exact hK (k - 1) _ _ (by omega) ⟨j + 1, by omega, o1.trans oM, by simp [t1], by simp [t7, hvv], by simp [t8], by simp, hf⟩
    · have hjj : j = l.length := by omega
      subst hjj
      rw [List.drop_length] at hf
      simp -implicitDefEqProofs (disch := first | assumption | (simp only [wnA]; done) | (simp only [wnA]; omega) | omega | fail) [hjl, wkA, retV, stabOk, dC, ev, fillD, pickCells, putAt, bnd, slD, List.getElem?_cons_zero, List.getElem?_cons_succ, dR.eq_20, Mem.cell, Mem.row, wmA, rc14_2]
      have := hq m1 o1
      rw [← hf] at this
      exact this
theorem c_find {w0 : World} {m : Mem} {v : Value} {l : List DV} {s : List UInt8} {Q : Value → Mem → Prop} (hv : DsV m v l) (hl : l.length ≤ 1000000) (hq : ∀ m', Old m m' → Q (.int .i64 (findN s l 0)) m') : AbC Tryz.prog w0 15 [v, .string ⟨⟨s⟩⟩] m Q := by
  refine AbC_fn ok15 (by simp) ?_
  simp -implicitDefEqProofs (disch := first | assumption | (simp only [wnA]; done) | (simp only [wnA]; omega) | omega | fail) [rc15, ro15, wkA, retV, stabOk, dC, ev, fillD, pickCells, putAt, bnd, slD, List.getElem?_cons_zero, List.getElem?_cons_succ, dR.eq_20, Mem.cell, Mem.row, wmA, hv.sl.slen]
  refine LoopW_of (fun k ts m' => ∃ j, j + k = l.length ∧ Old m m' ∧ ts 1 = .string ⟨⟨s⟩⟩ ∧ ts 7 = v ∧ ts 8 = .int .i64 (l.length : Nat) ∧ ts 9 = .int .i64 (j : Nat) ∧ findN s (l.drop j) j = findN s l 0) l.length ?_ ?_
  · exact ⟨0, by omega, Old.refl m, by simp [frA_at], by simp [frA_at], by simp, by simp, rfl⟩
  · rintro k ts m1 K ⟨j, hj, o1, t1, t7, t8, t9, hf⟩ hK
    simp -implicitDefEqProofs (disch := first | assumption | (simp only [wnA]; done) | (simp only [wnA]; omega) | omega | fail) [rc15_1, wkA, retV, stabOk, dC, ev, fillD, pickCells, putAt, bnd, slD, List.getElem?_cons_zero, List.getElem?_cons_succ, dR.eq_20, Mem.cell, Mem.row, wmA, t8, t9]
    by_cases hjl : j < l.length
    · have hv1 := hv.old o1
      obtain ⟨bi, bo, L, hvv, hL, hLl, hLt, -⟩ := hv1.sl.at hjl
      rw [flat_at vC_len l (List.getElem?_eq_getElem hjl)] at hLt
      rw [findN_at hjl] at hf
      obtain ⟨x, hx⟩ : ∃ x, l[j] = x := ⟨_, rfl⟩
      have hone := (hv1.ar x (by rw [← hx]; exact List.getElem_mem hjl)).sl.one
      rw [hx] at hLt hf
      rw [hvv] at t7
      have hle : bo + j * 7 + 7 ≤ L.length := by omega
      have hjw : IntKind.i64.wrap ((j : Int) + 1) = ((j + 1 : Nat) : Int) := by rw [w64 (by omega)]; omega
      obtain ⟨M, hM⟩ : ∃ M, (m1.push (.own [.string ⟨#[]⟩, .int .i64 0, .string ⟨#[]⟩, .slice none 0 0, .int .i64 0, .string ⟨#[]⟩, .int .i64 0] 29)).set m1.next (.own (putAt [.string ⟨#[]⟩, .int .i64 0, .string ⟨#[]⟩, .slice none 0 0, .int .i64 0, .string ⟨#[]⟩, .int .i64 0] 0 (vC x)) 29) = M := ⟨_, rfl⟩
      have oM : Old m1 M := by subst hM; exact ((Old.refl m1).push _).set (Nat.le_refl _) _
      have gM : M.get m1.next = .own (dsC x.1 x.2) 29 := by subst hM; rw [Mem.set_same]; rfl
      obtain ⟨⟨lb, kd, tx, arms, n, to, pl⟩, av⟩ := x
      have gx : M.get m1.next = .own [.string ⟨⟨lb⟩⟩, .int .i64 kd, .string ⟨⟨tx⟩⟩, av, .int .i64 n, .string ⟨⟨to⟩⟩, .int .i64 pl] 29 := gM
      have hLt : (L.drop (bo + j * 7)).take 7 = [.string ⟨⟨lb⟩⟩, .int .i64 kd, .string ⟨⟨tx⟩⟩, av, .int .i64 n, .string ⟨⟨to⟩⟩, .int .i64 pl] := hLt
      simp only at hf
      simp -implicitDefEqProofs (disch := first | assumption | (simp only [wnA]; done) | (simp only [wnA]; omega) | omega | fail) [hjl, rc15_0, wkA, retV, stabOk, dC, ev, fillD, pickCells, putAt, bnd, slD, List.getElem?_cons_zero, List.getElem?_cons_succ, dR.eq_20, Mem.cell, Mem.row, wmA, t1, t7, t8, t9, sidx_at, hL, hLt, hle]
      refine SK_stm (i := m1.next) (o := 0) (vs := vC (⟨lb, kd, tx, arms, n, to, pl⟩, av)) (cs := [.string ⟨#[]⟩, .int .i64 0, .string ⟨#[]⟩, .slice none 0 0, .int .i64 0, .string ⟨#[]⟩, .int .i64 0]) (e := 29) (M := M) (by simp [wkA, retV, stabOk, dC, ev, fillD, pickCells, putAt, bnd, slD, List.getElem?_cons_zero, List.getElem?_cons_succ, dR.eq_20]) (by simp -implicitDefEqProofs (disch := first | assumption | (simp only [wnA]; done) | (simp only [wnA]; omega) | omega | fail) [wkA, retV, stabOk, dC, ev, fillD, pickCells, putAt, bnd, slD, List.getElem?_cons_zero, List.getElem?_cons_succ, dR.eq_20, Mem.cell, Mem.row, wmA]) (by simp [wkA, retV, stabOk, dC, ev, fillD, pickCells, putAt, bnd, slD, List.getElem?_cons_zero, List.getElem?_cons_succ, dR.eq_20, vC, dsC]) (by simp) rfl (by simp only [vC, dsC, List.all_cons, List.all_nil, hone.1]; rfl) hM ?_
      clear hM
      by_cases h1 : lb = s
      · by_cases h2 : s = []
        · subst h1 h2
          rw [if_neg (by simp)] at hf
          simp -implicitDefEqProofs (disch := first | assumption | (simp only [wnA]; done) | (simp only [wnA]; omega) | omega | fail) [wkA, retV, stabOk, dC, ev, fillD, pickCells, putAt, bnd, slD, List.getElem?_cons_zero, List.getElem?_cons_succ, dR.eq_20, Mem.cell, Mem.row, wmA, gx, t1, t9, hjw]
          exact hK (k - 1) _ _ (by omega) ⟨j + 1, by omega, o1.trans oM, by simp [t1], by simp [t7, hvv], by simp [t8], by simp, hf⟩
        · rw [if_pos ⟨h1, h2⟩] at hf
          have hb0 : s.isEmpty = false := by cases s <;> simp at h2 ⊢
          simp -implicitDefEqProofs (disch := first | assumption | (simp only [wnA]; done) | (simp only [wnA]; omega) | omega | fail) [wkA, retV, stabOk, dC, ev, fillD, pickCells, putAt, bnd, slD, List.getElem?_cons_zero, List.getElem?_cons_succ, dR.eq_20, Mem.cell, Mem.row, wmA, gx, t1, t9, hjw, h1, hb0, h2]
          rw [hf]
          exact hq M (o1.trans oM)
      · rw [if_neg (fun h => h1 h.1)] at hf
        have hb1 : (lb == s) = false := by simpa using h1
        by_cases h2 : s = []
        · subst h2
          simp -implicitDefEqProofs (disch := first | assumption | (simp only [wnA]; done) | (simp only [wnA]; omega) | omega | fail) [wkA, retV, stabOk, dC, ev, fillD, pickCells, putAt, bnd, slD, List.getElem?_cons_zero, List.getElem?_cons_succ, dR.eq_20, Mem.cell, Mem.row, wmA, gx, t1, t9, hjw]
          exact hK (k - 1) _ _ (by omega) ⟨j + 1, by omega, o1.trans oM, by simp [t1], by simp [t7, hvv], by simp [t8], by simp, hf⟩
        have hb0 : s.isEmpty = false := by cases s <;> simp at h2 ⊢
        simp -implicitDefEqProofs (disch := first | assumption | (simp only [wnA]; done) | (simp only [wnA]; omega) | omega | fail) [wkA, retV, stabOk, dC, ev, fillD, pickCells, putAt, bnd, slD, List.getElem?_cons_zero, List.getElem?_cons_succ, dR.eq_20, Mem.cell, Mem.row, wmA, gx, t1, t9, hjw, hb1, hb0, h2]
        exact hK (k - 1) _ _ (by omega) ⟨j + 1, by omega, o1.trans oM, by simp [t1], by simp [t7, hvv], by simp [t8], by simp, hf⟩
    · have hjj : j = l.length := by omega
      subst hjj
      rw [List.drop_length] at hf
      simp -implicitDefEqProofs (disch := first | assumption | (simp only [wnA]; done) | (simp only [wnA]; omega) | omega | fail) [hjl, wkA, retV, stabOk, dC, ev, fillD, pickCells, putAt, bnd, slD, List.getElem?_cons_zero, List.getElem?_cons_succ, dR.eq_20, Mem.cell, Mem.row, wmA, rc15_2]
      have := hq m1 o1
      rw [← hf] at this
      exact this
end Go.Proofs.YtjlicambfepfiaaGreatDoor.Ab

set_option linter.unusedVariables false
set_option linter.unusedSimpArgs false
namespace Go.Proofs.YtjlicambfepfiaaGreatDoor.Ab
open Go Go.RowKit
set_option maxHeartbeats 4000000
set_option maxRecDepth 100000
def rcL : RC → RC
  | .seq a _ => a
  | x => x
def rcR : RC → RC
  | .seq _ b => b
  | x => x
def kinds13 : RC := rcR (rcL (rcR rc13_5))
def pre13 : RC := rcL rc13_5
def pre13b : RC := rcL (rcL (rcR rc13_5))
def tail13 : RC := rcR (rcR rc13_5)
theorem parts13 : rc13_5 = .seq pre13 (.seq (.seq pre13b kinds13) tail13) := rfl
/-- The steps that are made so far. -/
structure OutS (b m : Mem) (l : List DB) (ob : Option Nat) : Prop where
  o : Old b m
  so : SlO m 29 7 ob (l.flatMap dbC) l.length
  hob : ∀ i, ob = some i → b.next ≤ i
  aa : ArmsAt m b.next l
theorem OutS.old {b m m' : Mem} {l : List DB} {ob : Option Nat} (h : OutS b m l ob) (o : Old m m') : OutS b m' l ob :=
  ⟨h.o.trans o, h.so.keep o.1 fun j hj => o.2 j (by subst hj; exact h.so.lt), h.hob, fun x hx => ⟨(h.aa x hx).1.keep o.1 fun j hj => o.2 j (by have := (h.aa x hx).1; rw [hj] at this; exact this.lt), (h.aa x hx).2⟩⟩
theorem OutS.app {b m : Mem} {l : List DB} {ob : Option Nat} (h : OutS b m l ob) {d : DS} {oa : Option Nat} (sa : SlO m 49 2 oa (d.arms.flatMap Arm.cells) d.arms.length) (hoa : ∀ i, oa = some i → b.next ≤ i) :
    OutS b ((m.kill ob).push (.own (l.flatMap dbC ++ dsC d (slV oa d.arms.length 2)) 29)) (l ++ [(d, oa)]) (some m.next) := by
  refine ⟨(h.o.kill h.hob).push _, ?_, fun i hi => by cases hi; exact h.o.1, fun x hx => ?_⟩
  · have e : (l ++ [(d, oa)]).flatMap dbC = l.flatMap dbC ++ dsC d (slV oa d.arms.length 2) := by simp [dbC]
    rw [e, List.length_append]
    exact SlO.new (by rw [List.length_append, h.so.1]; show l.length * 7 + 7 = _; simp only [List.length_singleton]; omega)
  · rcases List.mem_append.1 hx with hx | hx
    · exact ⟨((h.aa x hx).1.kill ((h.aa x hx).1.ne2 h.so (by decide))).push _, (h.aa x hx).2⟩
    · rw [List.mem_singleton] at hx
      subst hx
      exact ⟨(sa.kill (sa.ne2 h.so (by decide))).push _, hoa⟩
/-- The texts that are sent. -/
def sends : List (List UInt8) := [[13], [98, 111, 111, 116, 13, 10], [97, 32, 98], [], [34, 113, 92]]
theorem sends_ok : ∀ t ∈ sends, StrOk t ∧ t.length ≤ 60 := fun t ht => by
  have h : ∀ t ∈ sends, (t.all fun c => (escC c).isSome) = true ∧ t.length ≤ 60 := by decide +kernel
  obtain ⟨h1, h2⟩ := h t ht
  rw [List.all_eq_true] at h1
  exact ⟨SafeL.ok h1, h2⟩
theorem arrow_ok : StrOk [61, 62, 32] := SafeL.ok (SafeL.cons (by decide +kernel) (SafeL.cons (by decide +kernel) (SafeL.cons (by decide +kernel) fun x hx => by cases hx)))
theorem T4.lit {base m : Mem} {i7 : Nat} {d : DS} {ob : Option Nat} (h : T4 base m i7 d ob) (x : Arm) :
    T4 base ((m.push (.own x.cells 49)).set i7 (.own (putAt (dsC d (slV ob d.arms.length 2)) 3 [slV (some m.next) 1 2]) 29)) i7 { d with arms := [x] } (some m.next) := by
  have hlt := h.m7
  refine ⟨(h.o.push _).set h.n7 _, h.n7, by simp; omega, by rw [Mem.set_same]; rfl, ⟨rfl, ?_, by simp⟩, fun i hi => by cases hi; exact h.o.1⟩
  rw [Mem.set_other _ _ (by omega), Mem.push_same]
  simp
theorem w_kinds {w0 : World} {Q : AQ} {fr : Fr} {base m : Mem} {i6 i7 : Nat} {a : Ac7} {lb to : List UInt8} {n kd : Nat} (ha : AcV m a) (hl : a.pats.length ≤ maxLen) (h : T4 base m i7 ⟨lb, (kd : Int), [], [], 0, [], 0⟩ none) (hn : 0 < n ∧ n ≤ 12) (hkd : kd < 6)
    (hlb : WordOk lb ∧ lb.length ≤ 2) (hto : WordOk to ∧ to.length ≤ 2)
    (g6 : m.get i6 = .own (acC a) 69) (n6 : i6 < m.next)
    (hab : ∀ b, blk a.av = some b → b ≠ i7) (hpb : ∀ p ∈ a.pats, ∀ b, blk p.1 = some b → b ≠ i7)
    (f3 : fr 3 = .int .i64 (n : Nat)) (f6 : fr 6 = .pointer (some ⟨i6, 0, none⟩)) (f7 : fr 7 = .pointer (some ⟨i7, 0, none⟩)) (f8 : fr 8 = .string ⟨⟨to⟩⟩) (f39 : fr 39 = .int .i64 (kd : Nat))
    (hq : ∀ fr' m' d oa, Kept i7 m m' → T4 base m' i7 d oa → WFS 60 d → (∀ k ∈ [3, 4, 7, 18, 19, 20], fr' k = fr k) → Q .normal fr' m') : AbW Tryz.prog w0 kinds13 Q fr m := by
  have g7 := h.g7
  have hn67 : i6 ≠ i7 := fun e => by
    rw [← e, g6] at g7
    cases g7
  have hk := Kept.refl i7 m
  have wl : WordOk lb ∧ lb.length ≤ 60 := ⟨hlb.1, by omega⟩
  have wt : WordOk to ∧ to.length ≤ 60 := ⟨hto.1, by omega⟩
  have g63 : m.get i6 = .own [.bool a.lb, .int .u8 (a.kd.toNat : Int), .int .u8 (a.tx.toNat : Int), a.av, .int .u8 (a.n.toNat : Int), .int .u8 (a.to.toNat : Int)] 69 := g6
  rcases (show kd = 0 ∨ kd = 1 ∨ kd = 2 ∨ kd = 3 ∨ kd = 4 ∨ kd = 5 by omega) with rfl | rfl | rfl | rfl | rfl | rfl
  · have r1 := rem_u8 (k := a.tx.toNat) (b := 5) (by omega)
    have hr5 : a.tx.toNat % 5 < 5 := Nat.mod_lt _ (by omega)
    generalize a.tx.toNat % 5 = r at *
    have r1 : dBin .rem (.int .u8 (a.tx.toNat : Int)) (.int .u8 5) = some (.int .u8 (r : Int)) := r1
    simp -implicitDefEqProofs (disch := first | assumption | (simp only [wnA]; done) | (simp only [wnA]; omega) | omega | fail) [kinds13, rcR, rcL, rc13_5, wkA, retV, stabOk, dC, ev, fillD, pickCells, putAt, bnd, slD, List.getElem?_cons_zero, List.getElem?_cons_succ, dR.eq_20, Mem.cell, Mem.row, wmA, f39, f8, f7]
    rw [SK_bsl (cs := [.string ⟨#[13]⟩, .string ⟨#[98, 111, 111, 116, 13, 10]⟩, .string ⟨#[97, 32, 98]⟩, .string ⟨#[]⟩, .string ⟨#[34, 113, 92]⟩]) (by simp [wkA, retV, stabOk, dC, ev, fillD, pickCells, putAt, bnd, slD, List.getElem?_cons_zero, List.getElem?_cons_succ, dR.eq_20]) (by simp)]
    obtain ⟨M1, hM1⟩ : ∃ M, m.push (.own [.string ⟨#[13]⟩, .string ⟨#[98, 111, 111, 116, 13, 10]⟩, .string ⟨#[97, 32, 98]⟩, .string ⟨#[]⟩, .string ⟨#[34, 113, 92]⟩] 9) = M := ⟨_, rfl⟩
    have o1 : Old m M1 := by subst hM1; exact (Old.refl m).push _
    have g1 : M1.get m.next = .own [.string ⟨#[13]⟩, .string ⟨#[98, 111, 111, 116, 13, 10]⟩, .string ⟨#[97, 32, 98]⟩, .string ⟨#[]⟩, .string ⟨#[34, 113, 92]⟩] 9 := by subst hM1; rw [Mem.push_same]
    rw [hM1]
    clear hM1
    have g61 := (o1.2 _ n6).trans g63
    have h1 := h.old o1
    have fin : ∀ (t : List UInt8) (M : Mem) (fr' : Fr), t ∈ sends → T4 base M i7 ⟨lb, 0, t, [], 0, [], 0⟩ none → (∀ i, i ≠ i7 → M.get i = M1.get i) → M.next = M1.next → (∀ k ∈ [3, 4, 7, 18, 19, 20], fr' k = fr k) → Q .normal fr' M := fun t M fr' ht hM oM nM hf =>
      hq _ M _ none (o1.kept.trans ⟨Nat.le_of_eq nM.symm, fun i _ hi => oM i hi⟩) hM ⟨⟨.inr wl.1, .inl ⟨rfl, (sends_ok t ht).1, rfl, rfl, rfl⟩⟩, wl.2, (sends_ok t ht).2, by simp, by simp, by simp⟩ hf
    have hs : sidx 1 (.slice (some ⟨m.next, 0, none⟩) 5 1) (.int .u8 (r : Int)) = some (.pointer (some ⟨m.next, r, none⟩)) := by simpa using sidx_at (b := m.next) (o := 0) (n := 5) (c := 1) (j := r) (sz := 1) (k := .u8) hr5
    rcases (show r = 0 ∨ r = 1 ∨ r = 2 ∨ r = 3 ∨ r = 4 by omega) with rfl | rfl | rfl | rfl | rfl
    · simp at hs
      simp -implicitDefEqProofs (disch := first | assumption | (simp only [wnA]; done) | (simp only [wnA]; omega) | omega | fail) [wkA, retV, stabOk, dC, ev, fillD, pickCells, putAt, bnd, slD, List.getElem?_cons_zero, List.getElem?_cons_succ, dR.eq_20, Mem.cell, Mem.row, wmA, g61, g1, r1, f6, f7, hs]
      refine h1.store ⟨lb, 0, [13], [], 0, [], 0⟩ 2 (.string ⟨⟨[13]⟩⟩) (by simp [wkA, retV, stabOk, dC, ev, fillD, pickCells, putAt, bnd, slD, List.getElem?_cons_zero, List.getElem?_cons_succ, dR.eq_20, f7]) (by simp [wkA, retV, stabOk, dC, ev, fillD, pickCells, putAt, bnd, slD, List.getElem?_cons_zero, List.getElem?_cons_succ, dR.eq_20]) rfl rfl (by omega) rfl fun M hM oM nM => ?_
      simp -implicitDefEqProofs (disch := first | assumption | (simp only [wnA]; done) | (simp only [wnA]; omega) | omega | fail) [wkA, retV, stabOk, dC, ev, fillD, pickCells, putAt, bnd, slD, List.getElem?_cons_zero, List.getElem?_cons_succ, dR.eq_20, Mem.cell, Mem.row, wmA]
      refine fin [13] M _ (by simp [sends]) hM oM nM fun k hk => ?_
      simp only [List.mem_cons, List.not_mem_nil, or_false] at hk
      rcases hk with rfl | rfl | rfl | rfl | rfl | rfl <;> simp [f7]
    · simp at hs
      simp -implicitDefEqProofs (disch := first | assumption | (simp only [wnA]; done) | (simp only [wnA]; omega) | omega | fail) [wkA, retV, stabOk, dC, ev, fillD, pickCells, putAt, bnd, slD, List.getElem?_cons_zero, List.getElem?_cons_succ, dR.eq_20, Mem.cell, Mem.row, wmA, g61, g1, r1, f6, f7, hs]
      refine h1.store ⟨lb, 0, [98, 111, 111, 116, 13, 10], [], 0, [], 0⟩ 2 (.string ⟨⟨[98, 111, 111, 116, 13, 10]⟩⟩) (by simp [wkA, retV, stabOk, dC, ev, fillD, pickCells, putAt, bnd, slD, List.getElem?_cons_zero, List.getElem?_cons_succ, dR.eq_20, f7]) (by simp [wkA, retV, stabOk, dC, ev, fillD, pickCells, putAt, bnd, slD, List.getElem?_cons_zero, List.getElem?_cons_succ, dR.eq_20]) rfl rfl (by omega) rfl fun M hM oM nM => ?_
      simp -implicitDefEqProofs (disch := first | assumption | (simp only [wnA]; done) | (simp only [wnA]; omega) | omega | fail) [wkA, retV, stabOk, dC, ev, fillD, pickCells, putAt, bnd, slD, List.getElem?_cons_zero, List.getElem?_cons_succ, dR.eq_20, Mem.cell, Mem.row, wmA]
      refine fin [98, 111, 111, 116, 13, 10] M _ (by simp [sends]) hM oM nM fun k hk => ?_
      simp only [List.mem_cons, List.not_mem_nil, or_false] at hk
      rcases hk with rfl | rfl | rfl | rfl | rfl | rfl <;> simp [f7]
    · simp at hs
      simp -implicitDefEqProofs (disch := first | assumption | (simp only [wnA]; done) | (simp only [wnA]; omega) | omega | fail) [wkA, retV, stabOk, dC, ev, fillD, pickCells, putAt, bnd, slD, List.getElem?_cons_zero, List.getElem?_cons_succ, dR.eq_20, Mem.cell, Mem.row, wmA, g61, g1, r1, f6, f7, hs]
      refine h1.store ⟨lb, 0, [97, 32, 98], [], 0, [], 0⟩ 2 (.string ⟨⟨[97, 32, 98]⟩⟩) (by simp [wkA, retV, stabOk, dC, ev, fillD, pickCells, putAt, bnd, slD, List.getElem?_cons_zero, List.getElem?_cons_succ, dR.eq_20, f7]) (by simp [wkA, retV, stabOk, dC, ev, fillD, pickCells, putAt, bnd, slD, List.getElem?_cons_zero, List.getElem?_cons_succ, dR.eq_20]) rfl rfl (by omega) rfl fun M hM oM nM => ?_
      simp -implicitDefEqProofs (disch := first | assumption | (simp only [wnA]; done) | (simp only [wnA]; omega) | omega | fail) [wkA, retV, stabOk, dC, ev, fillD, pickCells, putAt, bnd, slD, List.getElem?_cons_zero, List.getElem?_cons_succ, dR.eq_20, Mem.cell, Mem.row, wmA]
      refine fin [97, 32, 98] M _ (by simp [sends]) hM oM nM fun k hk => ?_
      simp only [List.mem_cons, List.not_mem_nil, or_false] at hk
      rcases hk with rfl | rfl | rfl | rfl | rfl | rfl <;> simp [f7]
    · simp at hs
      simp -implicitDefEqProofs (disch := first | assumption | (simp only [wnA]; done) | (simp only [wnA]; omega) | omega | fail) [wkA, retV, stabOk, dC, ev, fillD, pickCells, putAt, bnd, slD, List.getElem?_cons_zero, List.getElem?_cons_succ, dR.eq_20, Mem.cell, Mem.row, wmA, g61, g1, r1, f6, f7, hs]
      refine h1.store ⟨lb, 0, [], [], 0, [], 0⟩ 2 (.string ⟨⟨[]⟩⟩) (by simp [wkA, retV, stabOk, dC, ev, fillD, pickCells, putAt, bnd, slD, List.getElem?_cons_zero, List.getElem?_cons_succ, dR.eq_20, f7]) (by simp [wkA, retV, stabOk, dC, ev, fillD, pickCells, putAt, bnd, slD, List.getElem?_cons_zero, List.getElem?_cons_succ, dR.eq_20]) rfl rfl (by omega) rfl fun M hM oM nM => ?_
      simp -implicitDefEqProofs (disch := first | assumption | (simp only [wnA]; done) | (simp only [wnA]; omega) | omega | fail) [wkA, retV, stabOk, dC, ev, fillD, pickCells, putAt, bnd, slD, List.getElem?_cons_zero, List.getElem?_cons_succ, dR.eq_20, Mem.cell, Mem.row, wmA]
      refine fin [] M _ (by simp [sends]) hM oM nM fun k hk => ?_
      simp only [List.mem_cons, List.not_mem_nil, or_false] at hk
      rcases hk with rfl | rfl | rfl | rfl | rfl | rfl <;> simp [f7]
    · simp at hs
      simp -implicitDefEqProofs (disch := first | assumption | (simp only [wnA]; done) | (simp only [wnA]; omega) | omega | fail) [wkA, retV, stabOk, dC, ev, fillD, pickCells, putAt, bnd, slD, List.getElem?_cons_zero, List.getElem?_cons_succ, dR.eq_20, Mem.cell, Mem.row, wmA, g61, g1, r1, f6, f7, hs]
      refine h1.store ⟨lb, 0, [34, 113, 92], [], 0, [], 0⟩ 2 (.string ⟨⟨[34, 113, 92]⟩⟩) (by simp [wkA, retV, stabOk, dC, ev, fillD, pickCells, putAt, bnd, slD, List.getElem?_cons_zero, List.getElem?_cons_succ, dR.eq_20, f7]) (by simp [wkA, retV, stabOk, dC, ev, fillD, pickCells, putAt, bnd, slD, List.getElem?_cons_zero, List.getElem?_cons_succ, dR.eq_20]) rfl rfl (by omega) rfl fun M hM oM nM => ?_
      simp -implicitDefEqProofs (disch := first | assumption | (simp only [wnA]; done) | (simp only [wnA]; omega) | omega | fail) [wkA, retV, stabOk, dC, ev, fillD, pickCells, putAt, bnd, slD, List.getElem?_cons_zero, List.getElem?_cons_succ, dR.eq_20, Mem.cell, Mem.row, wmA]
      refine fin [34, 113, 92] M _ (by simp [sends]) hM oM nM fun k hk => ?_
      simp only [List.mem_cons, List.not_mem_nil, or_false] at hk
      rcases hk with rfl | rfl | rfl | rfl | rfl | rfl <;> simp [f7]
  · have r1 := rem_u8 (k := a.n.toNat) (b := 9) (by omega)
    have hr9 : a.n.toNat % 9 < 9 := Nat.mod_lt _ (by omega)
    generalize a.n.toNat % 9 = r at *
    have r1 : dBin .rem (.int .u8 (a.n.toNat : Int)) (.int .u8 9) = some (.int .u8 (r : Int)) := r1
    have e1 : IntKind.i64.wrap (r : Int) = (r : Int) := w64 (by omega)
    have e2 : IntKind.i64.wrap (1 + (r : Int)) = 1 + (r : Int) := w64 (by omega)
    simp -implicitDefEqProofs (disch := first | assumption | (simp only [wnA]; done) | (simp only [wnA]; omega) | omega | fail) [kinds13, rcR, rcL, rc13_5, wkA, retV, stabOk, dC, ev, fillD, pickCells, putAt, bnd, slD, List.getElem?_cons_zero, List.getElem?_cons_succ, dR.eq_20, Mem.cell, Mem.row, wmA, f39, f8, f7, f6, g63, r1, e1, e2]
    refine h.store ⟨lb, 1, [], [], 1 + (r : Int), [], 0⟩ 4 (.int .i64 (1 + (r : Int))) (by simp [wkA, retV, stabOk, dC, ev, fillD, pickCells, putAt, bnd, slD, List.getElem?_cons_zero, List.getElem?_cons_succ, dR.eq_20, f7]) (by simp [wkA, retV, stabOk, dC, ev, fillD, pickCells, putAt, bnd, slD, List.getElem?_cons_zero, List.getElem?_cons_succ, dR.eq_20]) rfl rfl (by omega) rfl fun M hM oM nM => ?_
    simp -implicitDefEqProofs (disch := first | assumption | (simp only [wnA]; done) | (simp only [wnA]; omega) | omega | fail) [wkA, retV, stabOk, dC, ev, fillD, pickCells, putAt, bnd, slD, List.getElem?_cons_zero, List.getElem?_cons_succ, dR.eq_20, Mem.cell, Mem.row, wmA, f7]
    refine hM.store ⟨lb, 1, [], [], 1 + (r : Int), to, 0⟩ 5 (.string ⟨⟨to⟩⟩) (by simp [wkA, retV, stabOk, dC, ev, fillD, pickCells, putAt, bnd, slD, List.getElem?_cons_zero, List.getElem?_cons_succ, dR.eq_20, f7]) (by simp [wkA, retV, stabOk, dC, ev, fillD, pickCells, putAt, bnd, slD, List.getElem?_cons_zero, List.getElem?_cons_succ, dR.eq_20]) rfl rfl (by omega) rfl fun M2 hM2 oM2 nM2 => ?_
    have k2 : Kept i7 m M2 := ⟨by omega, fun i _ hi => by rw [oM2 i hi, oM i hi]⟩
    have g64 : M2.get i6 = .own (acC a) 69 := (k2.2 i6 n6 hn67).trans g6
    have g65 : M2.get i6 = .own [.bool a.lb, .int .u8 (a.kd.toNat : Int), .int .u8 (a.tx.toNat : Int), a.av, .int .u8 (a.n.toNat : Int), .int .u8 (a.to.toNat : Int)] 69 := g64
    have ha2 : AcV M2 a := ⟨ha.sl.keep fun b hb => k2.2 b (ha.bl b hb) (hab b hb), fun b hb => Nat.lt_of_lt_of_le (ha.bl b hb) k2.1, fun p hp => ⟨(ha.ps p hp).1.keep fun b hb => k2.2 b ((ha.ps p hp).2.1 b hb) (hpb p hp b hb), fun b hb => Nat.lt_of_lt_of_le ((ha.ps p hp).2.1 b hb) k2.1, (ha.ps p hp).2.2⟩⟩
    have hsl := ha2.sl.slen
    simp -implicitDefEqProofs (disch := first | assumption | (simp only [wnA]; done) | (simp only [wnA]; omega) | omega | fail) [wkA, retV, stabOk, dC, ev, fillD, pickCells, putAt, bnd, slD, List.getElem?_cons_zero, List.getElem?_cons_succ, dR.eq_20, Mem.cell, Mem.row, wmA, f6, g65, hsl]
    refine w_pats ha2 hl hM2 rfl hn g64 (Nat.lt_of_lt_of_le n6 k2.1) hab hpb (by simp [f3]) (by simp [f6]) (by simp [f7]) (by simp) (by simp) (by simp) ?_
    intro fr' m' al ob kk hT hob hA hal hf
    have e7 := (hf 7 (by simp)).trans (by simp [f7] : _ = Value.pointer (some ⟨i7, 0, none⟩))
    have e8 := (hf 8 (by simp)).trans (by simp [f8] : _ = Value.string ⟨⟨to⟩⟩)
    have g7' := hT.g7
    have hlen := hT.so.slen
    simp only [dsC] at g7' hlen
    have kT := k2.trans kk
    by_cases h0 : al = []
    · subst h0
      simp only [List.length_nil] at g7' hlen
      simp -implicitDefEqProofs (disch := first | assumption | (simp only [wnA]; done) | (simp only [wnA]; omega) | omega | fail) [rc13_4, wkA, retV, stabOk, dC, ev, fillD, pickCells, putAt, bnd, slD, List.getElem?_cons_zero, List.getElem?_cons_succ, dR.eq_20, Mem.cell, Mem.row, wmA, e7, e8, g7', hlen]
      rw [SK_bsl (cs := [.string ⟨#[61, 62, 32]⟩, .string ⟨⟨to⟩⟩]) (by simp [wkA, retV, stabOk, dC, ev, fillD, pickCells, putAt, bnd, slD, List.getElem?_cons_zero, List.getElem?_cons_succ, dR.eq_20]) (by simp)]
      have hL := hT.lit ⟨[61, 62, 32], to⟩
      obtain ⟨M3, hM3⟩ : ∃ M, m'.push (.own [.string ⟨#[61, 62, 32]⟩, .string ⟨⟨to⟩⟩] 49) = M := ⟨_, rfl⟩
      have o3 : Old m' M3 := by subst hM3; exact (Old.refl m').push _
      have g73 := (o3.2 _ hT.m7).trans hT.g7
      have hL : T4 base (M3.set i7 (.own (putAt (dsC ⟨lb, 1, [], [], 1 + (r : Int), to, 0⟩ (slV ob 0 2)) 3 [slV (some m'.next) 1 2]) 29)) i7 ⟨lb, 1, [], [⟨[61, 62, 32], to⟩], 1 + (r : Int), to, 0⟩ (some m'.next) := by subst hM3; exact hL
      rw [hM3]
      clear hM3
      obtain ⟨M4, hM4⟩ : ∃ M, M3.set i7 (.own (putAt (dsC ⟨lb, 1, [], [], 1 + (r : Int), to, 0⟩ (slV ob 0 2)) 3 [slV (some m'.next) 1 2]) 29) = M := ⟨_, rfl⟩
      rw [hM4] at hL
      have k4 : Kept i7 m M4 := by subst hM4; exact (kT.trans o3.kept).trans ⟨by simp, fun i hi hn => Mem.set_other _ _ hn⟩
      simp -implicitDefEqProofs (disch := first | assumption | (simp only [wnA]; done) | (simp only [wnA]; omega) | omega | fail) [wkA, retV, stabOk, dC, ev, fillD, pickCells, putAt, bnd, slD, List.getElem?_cons_zero, List.getElem?_cons_succ, dR.eq_20, Mem.cell, Mem.row, wmA, e7]
      refine SK_stm (i := i7) (o := 3) (vs := [slV (some m'.next) 1 2]) (cs := dsC ⟨lb, 1, [], [], 1 + (r : Int), to, 0⟩ (slV ob 0 2)) (e := 29) (M := M4) (by simp [wkA, retV, stabOk, dC, ev, fillD, pickCells, putAt, bnd, slD, List.getElem?_cons_zero, List.getElem?_cons_succ, dR.eq_20, e7]) g73 (by simp [wkA, retV, stabOk, dC, ev, fillD, pickCells, putAt, bnd, slD, List.getElem?_cons_zero, List.getElem?_cons_succ, dR.eq_20, slV]) (by simp [dsC]) rfl rfl hM4 ?_
      simp -implicitDefEqProofs (disch := first | assumption | (simp only [wnA]; done) | (simp only [wnA]; omega) | omega | fail) [wkA, retV, stabOk, dC, ev, fillD, pickCells, putAt, bnd, slD, List.getElem?_cons_zero, List.getElem?_cons_succ, dR.eq_20, Mem.cell, Mem.row, wmA]
      refine hq _ M4 _ _ k4 hL ⟨⟨.inr wl.1, .inr (.inl ⟨rfl, rfl, by simp, fun x hx => ?_, ⟨by show 1 ≤ 1 + (r : Int); omega, by show 1 + (r : Int) ≤ 99; omega⟩, wt.1⟩)⟩, wl.2, by simp, wt.2, fun x hx => ?_, by simp⟩ fun k hk => ?_
      · rw [List.mem_singleton] at hx; subst hx; exact ⟨arrow_ok, wt.1⟩
      · rw [List.mem_singleton] at hx; subst hx; exact ⟨by simp, wt.2⟩
      · have := hf k (by simp only [List.mem_cons, List.not_mem_nil, or_false] at hk ⊢; omega)
        simp only [List.mem_cons, List.not_mem_nil, or_false] at hk
        rcases hk with rfl | rfl | rfl | rfl | rfl | rfl <;> simp [this]
    · have hl0 : ((al.length : Int) == 0) = false := beqF (by have : al.length ≠ 0 := fun e => h0 (List.length_eq_zero_iff.1 e); omega)
      simp -implicitDefEqProofs (disch := first | assumption | (simp only [wnA]; done) | (simp only [wnA]; omega) | omega | fail) [rc13_4, wkA, retV, stabOk, dC, ev, fillD, pickCells, putAt, bnd, slD, List.getElem?_cons_zero, List.getElem?_cons_succ, dR.eq_20, Mem.cell, Mem.row, wmA, e7, e8, g7', hlen, hl0]
      refine hq _ m' _ _ kT hT ⟨⟨.inr wl.1, .inr (.inl ⟨rfl, rfl, h0, fun x hx => ⟨SafeL.ok (hA x hx).1, (hA x hx).2.1⟩, ⟨by show 1 ≤ 1 + (r : Int); omega, by show 1 + (r : Int) ≤ 99; omega⟩, wt.1⟩)⟩, wl.2, by simp, wt.2, fun x hx => ⟨by have := (hA x hx).2.2.1; omega, by have := (hA x hx).2.2.2; omega⟩, by show al.length ≤ 60; omega⟩ fun k hk => ?_
      have := hf k (by simp only [List.mem_cons, List.not_mem_nil, or_false] at hk ⊢; omega)
      simp only [List.mem_cons, List.not_mem_nil, or_false] at hk
      rcases hk with rfl | rfl | rfl | rfl | rfl | rfl <;> simp [this]
  · simp -implicitDefEqProofs (disch := first | assumption | (simp only [wnA]; done) | (simp only [wnA]; omega) | omega | fail) [kinds13, rcR, rcL, rc13_5, wkA, retV, stabOk, dC, ev, fillD, pickCells, putAt, bnd, slD, List.getElem?_cons_zero, List.getElem?_cons_succ, dR.eq_20, Mem.cell, Mem.row, wmA, f39, f8, f7]
    refine h.store ⟨lb, 2, [], [], 0, to, 0⟩ 5 (.string ⟨⟨to⟩⟩) (by simp [wkA, retV, stabOk, dC, ev, fillD, pickCells, putAt, bnd, slD, List.getElem?_cons_zero, List.getElem?_cons_succ, dR.eq_20, f7]) (by simp [wkA, retV, stabOk, dC, ev, fillD, pickCells, putAt, bnd, slD, List.getElem?_cons_zero, List.getElem?_cons_succ, dR.eq_20]) rfl rfl (by omega) rfl fun M hM oM nM => ?_
    simp -implicitDefEqProofs (disch := first | assumption | (simp only [wnA]; done) | (simp only [wnA]; omega) | omega | fail) [wkA, retV, stabOk, dC, ev, fillD, pickCells, putAt, bnd, slD, List.getElem?_cons_zero, List.getElem?_cons_succ, dR.eq_20, Mem.cell, Mem.row, wmA]
    refine hq _ M _ none ⟨Nat.le_of_eq nM.symm, fun i _ hi => oM i hi⟩ hM ⟨⟨.inr wl.1, .inr (.inr (.inl ⟨rfl, rfl, rfl, rfl, wt.1⟩))⟩, wl.2, by simp, wt.2, by simp, by simp⟩ fun k hk => ?_
    simp only [List.mem_cons, List.not_mem_nil, or_false] at hk
    rcases hk with rfl | rfl | rfl | rfl | rfl | rfl <;> simp [f7]
  · have r1 := rem_u8 (k := a.n.toNat) (b := 9) (by omega)
    have hr9 : a.n.toNat % 9 < 9 := Nat.mod_lt _ (by omega)
    generalize a.n.toNat % 9 = r at *
    have r1 : dBin .rem (.int .u8 (a.n.toNat : Int)) (.int .u8 9) = some (.int .u8 (r : Int)) := r1
    have e1 : IntKind.i64.wrap (r : Int) = (r : Int) := w64 (by omega)
    have e2 : IntKind.i64.wrap (1 + (r : Int)) = 1 + (r : Int) := w64 (by omega)
    simp -implicitDefEqProofs (disch := first | assumption | (simp only [wnA]; done) | (simp only [wnA]; omega) | omega | fail) [kinds13, rcR, rcL, rc13_5, wkA, retV, stabOk, dC, ev, fillD, pickCells, putAt, bnd, slD, List.getElem?_cons_zero, List.getElem?_cons_succ, dR.eq_20, Mem.cell, Mem.row, wmA, f39, f8, f7, f6, g63, r1, e1, e2]
    refine h.store ⟨lb, 3, [], [], 1 + (r : Int), [], 0⟩ 4 (.int .i64 (1 + (r : Int))) (by simp [wkA, retV, stabOk, dC, ev, fillD, pickCells, putAt, bnd, slD, List.getElem?_cons_zero, List.getElem?_cons_succ, dR.eq_20, f7]) (by simp [wkA, retV, stabOk, dC, ev, fillD, pickCells, putAt, bnd, slD, List.getElem?_cons_zero, List.getElem?_cons_succ, dR.eq_20]) rfl rfl (by omega) rfl fun M hM oM nM => ?_
    simp -implicitDefEqProofs (disch := first | assumption | (simp only [wnA]; done) | (simp only [wnA]; omega) | omega | fail) [wkA, retV, stabOk, dC, ev, fillD, pickCells, putAt, bnd, slD, List.getElem?_cons_zero, List.getElem?_cons_succ, dR.eq_20, Mem.cell, Mem.row, wmA, f7]
    refine hM.store ⟨lb, 3, [], [], 1 + (r : Int), to, 0⟩ 5 (.string ⟨⟨to⟩⟩) (by simp [wkA, retV, stabOk, dC, ev, fillD, pickCells, putAt, bnd, slD, List.getElem?_cons_zero, List.getElem?_cons_succ, dR.eq_20, f7]) (by simp [wkA, retV, stabOk, dC, ev, fillD, pickCells, putAt, bnd, slD, List.getElem?_cons_zero, List.getElem?_cons_succ, dR.eq_20]) rfl rfl (by omega) rfl fun M2 hM2 oM2 nM2 => ?_
    simp -implicitDefEqProofs (disch := first | assumption | (simp only [wnA]; done) | (simp only [wnA]; omega) | omega | fail) [wkA, retV, stabOk, dC, ev, fillD, pickCells, putAt, bnd, slD, List.getElem?_cons_zero, List.getElem?_cons_succ, dR.eq_20, Mem.cell, Mem.row, wmA]
    refine hq _ M2 _ none ⟨by omega, fun i _ hi => by rw [oM2 i hi, oM i hi]⟩ hM2 ⟨⟨.inr wl.1, .inr (.inr (.inr (.inl ⟨rfl, rfl, rfl, ⟨by show 1 ≤ 1 + (r : Int); omega, by show 1 + (r : Int) ≤ 9; omega⟩, wt.1⟩)))⟩, wl.2, by simp, wt.2, by simp, by simp⟩ fun k hk => ?_
    simp only [List.mem_cons, List.not_mem_nil, or_false] at hk
    rcases hk with rfl | rfl | rfl | rfl | rfl | rfl <;> simp [f7]
  · simp -implicitDefEqProofs (disch := first | assumption | (simp only [wnA]; done) | (simp only [wnA]; omega) | omega | fail) [kinds13, rcR, rcL, rc13_5, wkA, retV, stabOk, dC, ev, fillD, pickCells, putAt, bnd, slD, List.getElem?_cons_zero, List.getElem?_cons_succ, dR.eq_20, Mem.cell, Mem.row, wmA, f39, f8, f7]
    refine hq _ m _ none hk h ⟨⟨.inr wl.1, .inr (.inr (.inr (.inr ⟨.inl rfl, rfl, rfl, rfl, rfl⟩)))⟩, wl.2, by simp, by simp, by simp, by simp⟩ fun k hk => ?_
    simp only [List.mem_cons, List.not_mem_nil, or_false] at hk
    rcases hk with rfl | rfl | rfl | rfl | rfl | rfl <;> simp [f7]
  · simp -implicitDefEqProofs (disch := first | assumption | (simp only [wnA]; done) | (simp only [wnA]; omega) | omega | fail) [kinds13, rcR, rcL, rc13_5, wkA, retV, stabOk, dC, ev, fillD, pickCells, putAt, bnd, slD, List.getElem?_cons_zero, List.getElem?_cons_succ, dR.eq_20, Mem.cell, Mem.row, wmA, f39, f8, f7]
    refine hq _ m _ none hk h ⟨⟨.inr wl.1, .inr (.inr (.inr (.inr ⟨.inr rfl, rfl, rfl, rfl, rfl⟩)))⟩, wl.2, by simp, by simp, by simp, by simp⟩ fun k hk => ?_
    simp only [List.mem_cons, List.not_mem_nil, or_false] at hk
    rcases hk with rfl | rfl | rfl | rfl | rfl | rfl <;> simp [f7]
end Go.Proofs.YtjlicambfepfiaaGreatDoor.Ab

set_option linter.unusedVariables false
set_option linter.unusedSimpArgs false
namespace Go.Proofs.YtjlicambfepfiaaGreatDoor.Ab
open Go Go.RowKit
set_option maxHeartbeats 4000000
set_option maxRecDepth 100000
/-- Steps by numbers lie. -/
structure AsV (m : Mem) (v : Value) (l : List Ac7) : Prop where
  sl : SlR m 6 v (l.flatMap acC) l.length
  bl : ∀ b, blk v = some b → b < m.next
  ac : ∀ a ∈ l, AcV m a ∧ a.pats.length ≤ maxLen
theorem AsV.old {m m' : Mem} {v : Value} {l : List Ac7} (h : AsV m v l) (o : Old m m') : AsV m' v l := ⟨h.sl.keep fun b hb => o.2 b (h.bl b hb), fun b hb => Nat.lt_of_lt_of_le (h.bl b hb) o.1, fun a ha => ⟨(h.ac a ha).1.old o, (h.ac a ha).2⟩⟩
theorem w_tail13 {w0 : World} {Q : AQ} {fr : Fr} {b base m : Mem} {i7 : Nat} {d : DS} {oa ob : Option Nat} {l : List DB} (h : T4 base m i7 d oa) (ho : OutS b base l ob) (hl : l.length < 12) (f4 : fr 4 = slV ob l.length 7) (f7 : fr 7 = .pointer (some ⟨i7, 0, none⟩))
    (hq : ∀ fr' m' ob', OutS b m' (l ++ [(d, oa)]) ob' → fr' 4 = slV ob' (l ++ [(d, oa)]).length 7 → (∀ k ∈ [3, 18, 19, 20], fr' k = fr k) → Q .normal fr' m') : AbW Tryz.prog w0 tail13 Q fr m := by
  have g7 := h.g7
  have hav : oneC (slV oa d.arms.length 2) = true := by cases oa <;> rfl
  have hO := ho.old h.o
  have hoa : ∀ i, oa = some i → b.next ≤ i := fun i hi => Nat.le_trans ho.o.1 (h.hob i hi)
  have hso := h.so
  obtain ⟨av, hav0⟩ : ∃ av, slV oa d.arms.length 2 = av := ⟨_, rfl⟩
  have hav2 : cellsV av = [av] := by rw [← hav0]; cases oa <;> rfl
  have ha1 := fun (M : Mem) (o : Old m M) => (hO.old o).app (d := d) (oa := oa) (hso.keep o.1 fun j hj => o.2 j (by subst hj; exact hso.lt)) hoa
  rw [hav0] at g7 hav
  simp only [hav0] at ha1
  simp only [dsC] at g7
  simp -implicitDefEqProofs (disch := first | assumption | (simp only [wnA]; done) | (simp only [wnA]; omega) | omega | fail) [tail13, rcR, rcL, rc13_5, wkA, retV, stabOk, dC, ev, fillD, pickCells, putAt, bnd, slD, List.getElem?_cons_zero, List.getElem?_cons_succ, dR_sl, Mem.cell, Mem.row, wmA, f4, f7, g7]
  rw [SK_bsl (cs := dsC d av) (by simp [wkA, retV, stabOk, dC, ev, fillD, pickCells, putAt, bnd, slD, List.getElem?_cons_zero, List.getElem?_cons_succ, dR_sl, dsC]) (by simp [dsC])]
  obtain ⟨m3, hm3⟩ : ∃ m3, m.push (.own (dsC d av) 29) = m3 := ⟨_, rfl⟩
  have o3 : Old m m3 := by subst hm3; exact (Old.refl m).push _
  have g3 : m3.get m.next = .own (dsC d av) 29 := by subst hm3; rw [Mem.push_same]
  have ha2 := ha1 m3 o3
  have hs3 := (hO.old o3).so
  simp -implicitDefEqProofs (disch := first | assumption | (simp only [wnA]; done) | (simp only [wnA]; omega) | omega | fail) [wkA, retV, stabOk, dC, ev, fillD, pickCells, putAt, bnd, slD, List.getElem?_cons_zero, List.getElem?_cons_succ, dR_sl, Mem.cell, Mem.row, wmA, hm3, f4]
  clear hm3
  refine SK_ap (ob := ob) (n := l.length) (k := 1) (cs := l.flatMap dbC) (ys := dsC d av) hs3 (by simp [wkA, retV, stabOk, dC, ev, fillD, pickCells, putAt, bnd, slD, List.getElem?_cons_zero, List.getElem?_cons_succ, dR_sl, f4]) (by simp -implicitDefEqProofs (disch := first | assumption | (simp only [wnA]; done) | (simp only [wnA]; omega) | omega | fail) [wkA, retV, stabOk, dC, ev, fillD, pickCells, putAt, bnd, slD, List.getElem?_cons_zero, List.getElem?_cons_succ, dR_sl, elemsV, Mem.cell, Mem.row, wmA, g3, dsC]) (by simp [wkA, retV, stabOk, dC, ev, fillD, pickCells, putAt, bnd, slD, List.getElem?_cons_zero, List.getElem?_cons_succ, dR_sl]) (by omega) ?_ (by omega) (by simp only [maxLen]; omega) rfl ?_
  · simp only [dsC, List.all_cons, List.all_nil, hav]; rfl
  obtain ⟨m4, hm4⟩ : ∃ m4, (m3.kill ob).push (.own (l.flatMap dbC ++ dsC d av) 29) = m4 := ⟨_, rfl⟩
  rw [hm4] at ha2 ⊢
  simp -implicitDefEqProofs (disch := first | assumption | (simp only [wnA]; done) | (simp only [wnA]; omega) | omega | fail) [wkA, retV, stabOk, dC, ev, fillD, pickCells, putAt, bnd, slD, List.getElem?_cons_zero, List.getElem?_cons_succ, dR_sl, Mem.cell, Mem.row, wmA]
  refine hq _ m4 _ ha2 (by simp) fun k hk => ?_
  simp only [List.mem_cons, List.not_mem_nil, or_false] at hk
  rcases hk with rfl | rfl | rfl | rfl <;> simp
theorem w_mid13 {w0 : World} {Q : AQ} {fr : Fr} {b M m : Mem} {i6 i7 n r : Nat} {a : Ac7} {lb : List UInt8} {ob : Option Nat} {out : List DB} (hO : OutS b M out ob) (hol : out.length < 12) (h : T4 M m i7 ⟨lb, (r : Int), [], [], 0, [], 0⟩ none) (hr : r < 6) (hlb : WordOk lb ∧ lb.length ≤ 2) (haV : AcV M a) (hpl : a.pats.length ≤ maxLen)
    (n6 : i6 < M.next) (g6 : M.get i6 = .own (acC a) 69) (hn : 0 < n ∧ n ≤ 12) (f3 : fr 3 = .int .i64 (n : Nat)) (f4 : fr 4 = slV ob out.length 7) (f6 : fr 6 = .pointer (some ⟨i6, 0, none⟩)) (f7 : fr 7 = .pointer (some ⟨i7, 0, none⟩))
    (hq : ∀ fr' m' d oa ob', OutS b m' (out ++ [(d, oa)]) ob' → WFS 60 d → fr' 4 = slV ob' (out ++ [(d, oa)]).length 7 → (∀ k ∈ [3, 18, 19, 20], fr' k = fr k) → Q .normal fr' m') : AbW Tryz.prog w0 rc13_5 Q fr m := by
  have n67 := h.n7
  have g6m := (h.o.2 _ n6).trans g6
  have g63 : m.get i6 = .own [.bool a.lb, .int .u8 (a.kd.toNat : Int), .int .u8 (a.tx.toNat : Int), a.av, .int .u8 (a.n.toNat : Int), .int .u8 (a.to.toNat : Int)] 69 := g6m
  have htoL : a.to.toNat < 256 := a.to.toNat_lt
  have hw : IntKind.i64.wrap (a.to.toNat : Int) = (a.to.toNat : Int) := w64 (by omega)
  have hr2 : dBin .rem (.int .i64 (a.to.toNat : Int)) (.int .i64 (n : Int)) = some (.int .i64 ((a.to.toNat % n : Nat) : Int)) := by
    rw [dBin_rem (by omega), Int.tmod_eq_emod_of_nonneg (by omega)]
    rfl
  have hrn : a.to.toNat % n < 26 := Nat.lt_of_lt_of_le (Nat.mod_lt _ hn.1) (by omega)
  generalize a.to.toNat % n = q at *
  rw [parts13]
  simp -implicitDefEqProofs (disch := first | assumption | (simp only [wnA]; done) | (simp only [wnA]; omega) | omega | fail) [pre13, rcL, rc13_5, wkA, retV, stabOk, dC, ev, fillD, pickCells, putAt, bnd, slD, List.getElem?_cons_zero, List.getElem?_cons_succ, dR_sl, Mem.cell, Mem.row, wmA, f3, f6, g63, hw, hr2]
  refine c_label hrn ?_
  have hwl := wd_label hrn
  generalize UInt8.ofNat (97 + q) = rc at *
  have g7 := h.g7
  simp only [dsC] at g7
  simp -implicitDefEqProofs (disch := first | assumption | (simp only [wnA]; done) | (simp only [wnA]; omega) | omega | fail) [pre13b, rcL, rcR, rc13_5, wkA, retV, stabOk, dC, ev, fillD, pickCells, putAt, bnd, slD, List.getElem?_cons_zero, List.getElem?_cons_succ, dR_sl, Mem.cell, Mem.row, wmA, f7, g7]
  refine w_kinds (haV.old h.o) hpl h hn hr hlb ⟨hwl, by simp⟩ g6m (Nat.lt_of_lt_of_le n6 h.o.1) (fun b hb e => by have := haV.bl b hb; omega) (fun p hp b hb e => by have := (haV.ps p hp).2.1 b hb; omega) (by simp [f3]) (by simp [f6]) (by simp [f7]) (by simp) (by simp) ?_
  intro fr' m' d oa kk hT hW hf
  simp -implicitDefEqProofs (disch := first | assumption | (simp only [wnA]; done) | (simp only [wnA]; omega) | omega | fail) [wkA, retV, stabOk, dC, ev, fillD, pickCells, putAt, bnd, slD, List.getElem?_cons_zero, List.getElem?_cons_succ, dR_sl, Mem.cell, Mem.row, wmA]
  refine w_tail13 hT hO hol ((hf 4 (by simp)).trans (by simp [f4])) ((hf 7 (by simp)).trans (by simp [f7])) ?_
  intro fr2 m2 ob2 hO2 e4 hf2
  refine hq fr2 m2 d oa ob2 hO2 hW e4 fun k hk => ?_
  have h1 := hf2 k hk
  have h2 := hf k (by simp only [List.mem_cons, List.not_mem_nil, or_false] at hk ⊢; omega)
  rw [h1, h2]
  simp only [List.mem_cons, List.not_mem_nil, or_false] at hk
  rcases hk with rfl | rfl | rfl | rfl <;> simp
theorem c_Steps {w0 : World} {m : Mem} {v : Value} {l : List Ac7} {Q : Value → Mem → Prop} (hv : AsV m v l) (hl : l.length ≤ maxLen) (hq : ∀ m' ob ls, OutS m m' ls ob → ls.length = min l.length 12 → (∀ x ∈ ls, WFS 60 x.1) → Q (slV ob ls.length 7) m') : AbC Tryz.prog w0 13 [v] m Q := by
  refine AbC_fn ok13 (by simp) ?_
  obtain ⟨n, hn⟩ : ∃ n, min l.length 12 = n := ⟨_, rfl⟩
  obtain ⟨v', sl1, sv', sb'⟩ := hv.sl.upto (k := n) (by omega)
  have hmn : (if (12 : Int) < (l.length : Int) then (12 : Int) else (l.length : Int)) = (n : Int) := by split <;> omega
  have hsl' := sv'.slen
  have hn12 : n ≤ 12 ∧ n ≤ l.length := by omega
  simp -implicitDefEqProofs (disch := first | assumption | (simp only [wnA]; done) | (simp only [wnA]; omega) | omega | fail) [rc13, ro13, wkA, retV, stabOk, dC, ev, fillD, pickCells, putAt, bnd, slD, List.getElem?_cons_zero, List.getElem?_cons_succ, dR_sl, Mem.cell, Mem.row, wmA, hv.sl.slen, hmn, sl1, hsl']
  refine LoopW_of (fun k ts m' => ∃ j out ob, j + k = n ∧ OutS m m' out ob ∧ out.length = j ∧ (∀ x ∈ out, WFS 60 x.1) ∧ ts 3 = .int .i64 (n : Nat) ∧ ts 4 = slV ob j 7 ∧ ts 18 = v' ∧ ts 19 = .int .i64 (n : Nat) ∧ ts 20 = .int .i64 (j : Nat)) n ?_ ?_
  · exact ⟨0, [], none, by omega, ⟨Old.refl m, ⟨rfl, rfl⟩, (fun i h => by cases h), fun x hx => by cases hx⟩, rfl, (fun x hx => by cases hx), by simp, by simp; rfl, by simp, by simp, by simp⟩
  · rintro k ts m1 K ⟨j, out, ob, hj, hO, hol, hW, t3, t4, t18, t19, t20⟩ hK
    simp -implicitDefEqProofs (disch := first | assumption | (simp only [wnA]; done) | (simp only [wnA]; omega) | omega | fail) [rc13_7, wkA, retV, stabOk, dC, ev, fillD, pickCells, putAt, bnd, slD, List.getElem?_cons_zero, List.getElem?_cons_succ, dR_sl, Mem.cell, Mem.row, wmA, t19, t20]
    by_cases hjn : j < n
    · have hjl : j < l.length := by omega
      obtain ⟨a, hx⟩ : ∃ a, l[j] = a := ⟨_, rfl⟩
      have ham : a ∈ l := by rw [← hx]; exact List.getElem_mem hjl
      obtain ⟨haV, hpl⟩ := hv.ac a ham
      obtain ⟨bi, bo, L, hvv, hL, hLl, hLt, -⟩ := (sv'.keep fun b hb => hO.o.2 b (hv.bl b (sb' b hb)) : SlR m1 6 v' _ n).at hjn
      rw [List.drop_take, List.take_take, Nat.min_eq_left (show 6 ≤ n * 6 - j * 6 by omega), flat_at acC_len l (List.getElem?_eq_getElem hjl), hx] at hLt
      rw [hvv] at t18
      have hle : bo + j * 6 + 6 ≤ L.length := by omega
      have hjw : IntKind.i64.wrap ((j : Int) + 1) = ((j + 1 : Nat) : Int) := by rw [w64 (by omega)]; omega
      obtain ⟨M, hM⟩ : ∃ M, (m1.push (.own [.bool false, .int .u8 0, .int .u8 0, .slice none 0 0, .int .u8 0, .int .u8 0] 69)).set m1.next (.own (putAt [.bool false, .int .u8 0, .int .u8 0, .slice none 0 0, .int .u8 0, .int .u8 0] 0 (acC a)) 69) = M := ⟨_, rfl⟩
      have oM : Old m1 M := by subst hM; exact ((Old.refl m1).push _).set (Nat.le_refl _) _
      have gM : M.get m1.next = .own (acC a) 69 := by subst hM; rw [Mem.set_same]; rfl
      have nM : M.next = m1.next + 1 := by subst hM; rfl
      have hLt' : (L.drop (bo + j * 6)).take 6 = [.bool a.lb, .int .u8 (a.kd.toNat : Int), .int .u8 (a.tx.toNat : Int), a.av, .int .u8 (a.n.toNat : Int), .int .u8 (a.to.toNat : Int)] := hLt
      have hone := haV.sl.one
      simp -implicitDefEqProofs (disch := first | assumption | (simp only [wnA]; done) | (simp only [wnA]; omega) | omega | fail) [hjn, rc13_6, wkA, retV, stabOk, dC, ev, fillD, pickCells, putAt, bnd, slD, List.getElem?_cons_zero, List.getElem?_cons_succ, dR_sl, Mem.cell, Mem.row, wmA, t18, t20, sidx_at, hL, hLt', hle]
      refine SK_stm (i := m1.next) (o := 0) (vs := acC a) (cs := [.bool false, .int .u8 0, .int .u8 0, .slice none 0 0, .int .u8 0, .int .u8 0]) (e := 69) (M := M) (by simp [wkA, retV, stabOk, dC, ev, fillD, pickCells, putAt, bnd, slD, List.getElem?_cons_zero, List.getElem?_cons_succ, dR_sl]) (by simp -implicitDefEqProofs (disch := first | assumption | (simp only [wnA]; done) | (simp only [wnA]; omega) | omega | fail) [wkA, retV, stabOk, dC, ev, fillD, pickCells, putAt, bnd, slD, List.getElem?_cons_zero, List.getElem?_cons_succ, dR_sl, Mem.cell, Mem.row, wmA]) (by simp [wkA, retV, stabOk, dC, ev, fillD, pickCells, putAt, bnd, slD, List.getElem?_cons_zero, List.getElem?_cons_succ, dR_sl, acC, byteV]) (by simp) rfl (by simp only [acC, List.all_cons, List.all_nil, hone.1]; rfl) hM ?_
      clear hM
      have gM' : M.get m1.next = .own [.bool a.lb, .int .u8 (a.kd.toNat : Int), .int .u8 (a.tx.toNat : Int), a.av, .int .u8 (a.n.toNat : Int), .int .u8 (a.to.toNat : Int)] 69 := gM
      have r1 := rem_u8 (k := a.kd.toNat) (b := 6) (by omega)
      have hr6 : a.kd.toNat % 6 < 6 := Nat.mod_lt _ (by omega)
      generalize a.kd.toNat % 6 = r at *
      have r1 : dBin .rem (.int .u8 (a.kd.toNat : Int)) (.int .u8 6) = some (.int .u8 (r : Int)) := r1
      have e1 : IntKind.i64.wrap (r : Int) = (r : Int) := w64 (by omega)
      simp -implicitDefEqProofs (disch := first | assumption | (simp only [wnA]; done) | (simp only [wnA]; omega) | omega | fail) [wkA, retV, stabOk, dC, ev, fillD, pickCells, putAt, bnd, slD, List.getElem?_cons_zero, List.getElem?_cons_succ, dR_sl, Mem.cell, Mem.row, wmA]
      refine AbW_sem_of ?_
      simp -implicitDefEqProofs (disch := first | assumption | (simp only [wnA]; done) | (simp only [wnA]; omega) | omega | fail) [wkA, retV, stabOk, dC, ev, fillD, pickCells, putAt, bnd, slD, List.getElem?_cons_zero, List.getElem?_cons_succ, dR_sl, Mem.cell, Mem.row, wmA, gM', r1, e1, t20]
      have n1 : m1.next < M.next := by omega
      have hOM := hO.old oM
      have hnn : 0 < n ∧ n ≤ 12 := by omega
      obtain ⟨M2, hM2⟩ : ∃ M2, (M.push (.own [.string ⟨#[]⟩, .int .i64 0, .string ⟨#[]⟩, .slice none 0 0, .int .i64 0, .string ⟨#[]⟩, .int .i64 0] 29)).set M.next (.own (putAt [.string ⟨#[]⟩, .int .i64 0, .string ⟨#[]⟩, .slice none 0 0, .int .i64 0, .string ⟨#[]⟩, .int .i64 0] 0 (dsC ⟨[115, UInt8.ofNat (97 + j)], (r : Int), [], [], 0, [], 0⟩ (.slice none 0 0))) 29) = M2 := ⟨_, rfl⟩
      have hT : T4 M M2 M.next ⟨[115, UInt8.ofNat (97 + j)], (r : Int), [], [], 0, [], 0⟩ none := by
        subst hM2
        exact ⟨((Old.refl M).push _).set (Nat.le_refl _) _, Nat.le_refl _, by simp, by rw [Mem.set_same]; rfl, ⟨rfl, rfl⟩, fun i hi => by cases hi⟩
      have hwl := wd_label (k := j) (by omega)
      have last : ∀ (fr' : Fr) (m' : Mem) (d : DS) (oa ob' : Option Nat), OutS m m' (out ++ [(d, oa)]) ob' → WFS 60 d → fr' 4 = slV ob' (out ++ [(d, oa)]).length 7 → fr' 3 = ts 3 → fr' 18 = ts 18 → fr' 19 = ts 19 → fr' 20 = .int .i64 ((j + 1 : Nat) : Int) → K fr' m' := fun fr' m' d oa ob' hO' hW' e4 e3 e18 e19 e20 =>
        hK (k - 1) _ _ (by omega) ⟨j + 1, out ++ [(d, oa)], ob', by omega, hO', by rw [List.length_append, hol]; rfl, fun x hx => by
          rcases List.mem_append.1 hx with hx | hx
          · exact hW x hx
          · rw [List.mem_singleton] at hx; subst hx; exact hW', by rw [e3, t3], by rw [e4, List.length_append, hol]; rfl, by rw [e18, t18, hvv], by rw [e19, t19], e20⟩
      constructor
      · simp -implicitDefEqProofs (disch := first | assumption | (simp only [wnA]; done) | (simp only [wnA]; omega) | omega | fail) [rc13_0, wkA, retV, stabOk, dC, ev, fillD, pickCells, putAt, bnd, slD, List.getElem?_cons_zero, List.getElem?_cons_succ, dR_sl, Mem.cell, Mem.row, wmA]
        refine c_label (k := j) (by omega) ?_
        generalize UInt8.ofNat (97 + j) = rc at *
        simp -implicitDefEqProofs (disch := first | assumption | (simp only [wnA]; done) | (simp only [wnA]; omega) | omega | fail) [wkA, retV, stabOk, dC, ev, fillD, pickCells, putAt, bnd, slD, List.getElem?_cons_zero, List.getElem?_cons_succ, dR_sl, Mem.cell, Mem.row, wmA, gM']
        refine SK_stm (i := M.next) (o := 0) (vs := dsC ⟨[115, rc], (r : Int), [], [], 0, [], 0⟩ (.slice none 0 0)) (cs := [.string ⟨#[]⟩, .int .i64 0, .string ⟨#[]⟩, .slice none 0 0, .int .i64 0, .string ⟨#[]⟩, .int .i64 0]) (e := 29) (M := M2) (by simp [wkA, retV, stabOk, dC, ev, fillD, pickCells, putAt, bnd, slD, List.getElem?_cons_zero, List.getElem?_cons_succ, dR_sl]) (by simp -implicitDefEqProofs (disch := first | assumption | (simp only [wnA]; done) | (simp only [wnA]; omega) | omega | fail) [wkA, retV, stabOk, dC, ev, fillD, pickCells, putAt, bnd, slD, List.getElem?_cons_zero, List.getElem?_cons_succ, dR_sl, Mem.cell, Mem.row, wmA]) (by simp [wkA, retV, stabOk, dC, ev, fillD, pickCells, putAt, bnd, slD, List.getElem?_cons_zero, List.getElem?_cons_succ, dR_sl, dsC]) (by simp) rfl rfl hM2 ?_
        clear hM2
        simp -implicitDefEqProofs (disch := first | assumption | (simp only [wnA]; done) | (simp only [wnA]; omega) | omega | fail) [wkA, retV, stabOk, dC, ev, fillD, pickCells, putAt, bnd, slD, List.getElem?_cons_zero, List.getElem?_cons_succ, dR_sl, Mem.cell, Mem.row, wmA]
        refine w_mid13 hOM (by omega) hT hr6 ⟨hwl, by simp⟩ (haV.old (hO.o.trans oM)) hpl n1 gM hnn (by simp [t3]) (by simp [t4, hol]) (by simp) (by simp) ?_
        intro fr' m' d oa ob' hO' hW' e4 hf
        have e20 : fr' 20 = .int .i64 (j : Int) := (hf 20 (by simp)).trans (by simp [t20])
        have e3 : fr' 3 = ts 3 := (hf 3 (by simp)).trans (by simp)
        have e18 : fr' 18 = ts 18 := (hf 18 (by simp)).trans (by simp)
        have e19 : fr' 19 = ts 19 := (hf 19 (by simp)).trans (by simp)
        simp -implicitDefEqProofs (disch := first | assumption | (simp only [wnA]; done) | (simp only [wnA]; omega) | omega | fail) [wkA, retV, stabOk, dC, ev, fillD, pickCells, putAt, bnd, slD, List.getElem?_cons_zero, List.getElem?_cons_succ, dR_sl, Mem.cell, Mem.row, wmA, e20, hjw]
        refine last _ m' d oa ob' hO' hW' (by simpa using e4) (by simpa using e3) (by simpa using e18) (by simpa using e19) (by simp)
      · simp -implicitDefEqProofs (disch := first | assumption | (simp only [wnA]; done) | (simp only [wnA]; omega) | omega | fail) [rc13_1, wkA, retV, stabOk, dC, ev, fillD, pickCells, putAt, bnd, slD, List.getElem?_cons_zero, List.getElem?_cons_succ, dR_sl, Mem.cell, Mem.row, wmA, gM']
        refine c_label (k := j) (by omega) ?_
        generalize UInt8.ofNat (97 + j) = rc at *
        simp -implicitDefEqProofs (disch := first | assumption | (simp only [wnA]; done) | (simp only [wnA]; omega) | omega | fail) [wkA, retV, stabOk, dC, ev, fillD, pickCells, putAt, bnd, slD, List.getElem?_cons_zero, List.getElem?_cons_succ, dR_sl, Mem.cell, Mem.row, wmA, gM']
        refine SK_stm (i := M.next) (o := 0) (vs := dsC ⟨[115, rc], (r : Int), [], [], 0, [], 0⟩ (.slice none 0 0)) (cs := [.string ⟨#[]⟩, .int .i64 0, .string ⟨#[]⟩, .slice none 0 0, .int .i64 0, .string ⟨#[]⟩, .int .i64 0]) (e := 29) (M := M2) (by simp [wkA, retV, stabOk, dC, ev, fillD, pickCells, putAt, bnd, slD, List.getElem?_cons_zero, List.getElem?_cons_succ, dR_sl]) (by simp -implicitDefEqProofs (disch := first | assumption | (simp only [wnA]; done) | (simp only [wnA]; omega) | omega | fail) [wkA, retV, stabOk, dC, ev, fillD, pickCells, putAt, bnd, slD, List.getElem?_cons_zero, List.getElem?_cons_succ, dR_sl, Mem.cell, Mem.row, wmA]) (by simp [wkA, retV, stabOk, dC, ev, fillD, pickCells, putAt, bnd, slD, List.getElem?_cons_zero, List.getElem?_cons_succ, dR_sl, dsC]) (by simp) rfl rfl hM2 ?_
        clear hM2
        simp -implicitDefEqProofs (disch := first | assumption | (simp only [wnA]; done) | (simp only [wnA]; omega) | omega | fail) [wkA, retV, stabOk, dC, ev, fillD, pickCells, putAt, bnd, slD, List.getElem?_cons_zero, List.getElem?_cons_succ, dR_sl, Mem.cell, Mem.row, wmA]
        refine w_mid13 hOM (by omega) hT hr6 ⟨hwl, by simp⟩ (haV.old (hO.o.trans oM)) hpl n1 gM hnn (by simp [t3]) (by simp [t4, hol]) (by simp) (by simp) ?_
        intro fr' m' d oa ob' hO' hW' e4 hf
        have e20 : fr' 20 = .int .i64 (j : Int) := (hf 20 (by simp)).trans (by simp [t20])
        have e3 : fr' 3 = ts 3 := (hf 3 (by simp)).trans (by simp)
        have e18 : fr' 18 = ts 18 := (hf 18 (by simp)).trans (by simp)
        have e19 : fr' 19 = ts 19 := (hf 19 (by simp)).trans (by simp)
        simp -implicitDefEqProofs (disch := first | assumption | (simp only [wnA]; done) | (simp only [wnA]; omega) | omega | fail) [wkA, retV, stabOk, dC, ev, fillD, pickCells, putAt, bnd, slD, List.getElem?_cons_zero, List.getElem?_cons_succ, dR_sl, Mem.cell, Mem.row, wmA, e20, hjw]
        refine last _ m' d oa ob' hO' hW' (by simpa using e4) (by simpa using e3) (by simpa using e18) (by simpa using e19) (by simp)
    · have hjj : j = n := by omega
      subst hjj
      simp -implicitDefEqProofs (disch := first | assumption | (simp only [wnA]; done) | (simp only [wnA]; omega) | omega | fail) [hjn, rc13_8, wkA, retV, stabOk, dC, ev, fillD, pickCells, putAt, bnd, slD, List.getElem?_cons_zero, List.getElem?_cons_succ, dR_sl, Mem.cell, Mem.row, wmA, t4]
      have := hq m1 ob out hO (by omega) hW
      rw [hol] at this
      exact this
end Go.Proofs.YtjlicambfepfiaaGreatDoor.Ab

set_option linter.unusedVariables false
set_option linter.unusedSimpArgs false
namespace Go.Proofs.YtjlicambfepfiaaGreatDoor.Ab
open Go Go.RowKit
def actShp : Shp := .recd [.bool, .int .u8, .int .u8, .sl (.sl (.int .u8)), .int .u8, .int .u8]
theorem absT_acts {m : Mem} {td : TD} {v : Value} (h : AbsT m td [v]) (hs : Fits (.sl actShp) td) :
    ∃ xs : List Ac7, AsV m v xs ∧ xs.length ≤ maxLen := by
  have hlen : ∀ l, td = .sl l → l.length ≤ maxLen := fun l e => by rw [e] at h; exact absT_len h
  obtain ⟨l, xs, e0, h1, h2, h3⟩ := absT_slice (f := acC) (z := 6) (R := fun d a => AcV m a ∧ a.pats.length ≤ maxLen) acC_len (fun d c hf ha => by
    obtain ⟨l, rfl, hl, hfl⟩ := absT_recd ha hf
    obtain ⟨d1, r1, c1, e1, rfl, rfl, t1, f1, hl, hfl⟩ := absTs_cons hl hfl
    obtain ⟨d2, r2, c2, e2, rfl, rfl, t2, f2, hl, hfl⟩ := absTs_cons hl hfl
    obtain ⟨d3, r3, c3, e3, rfl, rfl, t3, f3, hl, hfl⟩ := absTs_cons hl hfl
    obtain ⟨d4, r4, c4, e4, rfl, rfl, t4, f4, hl, hfl⟩ := absTs_cons hl hfl
    obtain ⟨d5, r5, c5, e5, rfl, rfl, t5, f5, hl, hfl⟩ := absTs_cons hl hfl
    obtain ⟨d6, r6, c6, e6, rfl, rfl, t6, f6, hl, hfl⟩ := absTs_cons hl hfl
    obtain ⟨rfl, rfl⟩ := absTs_nil hl hfl
    obtain ⟨b, rfl, rfl⟩ := absT_bool t1 f1
    obtain ⟨a2, rfl, -⟩ := arg_u8 _ _ f2 t2
    obtain ⟨a3, rfl, -⟩ := arg_u8 _ _ f3 t3
    obtain ⟨a5, rfl, -⟩ := arg_u8 _ _ f5 t5
    obtain ⟨a6, rfl, -⟩ := arg_u8 _ _ f6 t6
    obtain ⟨av, rfl⟩ := t4.one f4 (fun _ h => by cases h)
    have hpl : ∀ l, d4 = .sl l → l.length ≤ maxLen := fun l e => by rw [e] at t4; exact absT_len t4
    obtain ⟨lp, ps, e4, s1, s2, s3⟩ := absT_slice (f := fun p : Value × List UInt8 => [p.1]) (z := 1) (R := fun d p => SlR m 1 p.1 (p.2.map byteV) p.2.length ∧ (∀ b, blk p.1 = some b → b < m.next) ∧ p.2.length ≤ maxLen) (fun _ => rfl) (fun d c hf ha => by
      obtain ⟨w, rfl⟩ := ha.one hf (fun _ h => by cases h)
      have hbl : ∀ l, d = .sl l → l.length ≤ maxLen := fun l e => by rw [e] at ha; exact absT_len ha
      obtain ⟨lb, bs, e5, q1, q2, q3⟩ := absT_slice (f := fun b : UInt8 => [byteV b]) (z := 1) (R := fun _ _ => True) (fun _ => rfl) arg_u8 ha hf
      rw [flat_one byteV] at q1
      exact ⟨(w, bs), rfl, q1, q3, by rw [q2.length]; exact hbl lb e5⟩) t4 f4
    rw [flat_one Prod.fst] at s1
    exact ⟨⟨b, a2, a3, av, ps, a5, a6⟩, rfl, ⟨s1, s3, fun p hp => by obtain ⟨_, _, hr⟩ := s2.right p hp; exact hr⟩, by show ps.length ≤ maxLen; rw [s2.length]; exact hpl lp e4⟩) h hs
  exact ⟨xs, ⟨h1, h3, fun a ha => by obtain ⟨_, _, hr⟩ := h2.right a ha; exact hr⟩, by rw [h2.length]; exact hlen l e0⟩
end Go.Proofs.YtjlicambfepfiaaGreatDoor.Ab

set_option linter.unusedVariables false
set_option linter.unusedSimpArgs false
namespace Go.Proofs.YtjlicambfepfiaaGreatDoor.As
open Go Go.RowKit Go.Extern.Stop Go.Stop Go.Extern
set_option maxRecDepth 100000
abbrev hd (T : TypeId) : Value := .pointer (some ⟨7, T, none⟩)
end Go.Proofs.YtjlicambfepfiaaGreatDoor.As
set_option linter.unusedVariables false
set_option linter.unusedSimpArgs false
namespace Go.Proofs.YtjlicambfepfiaaGreatDoor.As
open Go Go.RowKit Go.Extern.Stop Go.Stop Go.Extern
set_option maxRecDepth 100000
end Go.Proofs.YtjlicambfepfiaaGreatDoor.As

set_option linter.unusedVariables false
set_option linter.unusedSimpArgs false
namespace Go.Proofs.YtjlicambfepfiaaGreatDoor.Ab
open Go Go.RowKit
set_option maxHeartbeats 4000000
set_option maxRecDepth 100000
def vOf (x : DB) : DV := (x.1, slV x.2 x.1.arms.length 2)
theorem dsV_of {m : Mem} {base : Nat} {ob : Option Nat} {l : List DB} (h : SlO m 29 7 ob (l.flatMap dbC) l.length) (ha : ArmsAt m base l) : DsV m (slV ob l.length 7) (l.map vOf) := by
  refine ⟨?_, fun b hb => ?_, fun x hx => ?_⟩
  · have e : (l.map vOf).flatMap vC = l.flatMap dbC := by rw [List.flatMap_map]; rfl
    rw [e, List.length_map]
    exact h.read
  · rw [blk_slV] at hb; subst hb; exact h.lt
  · obtain ⟨y, hy, rfl⟩ := List.mem_map.1 hx
    have := (ha y hy).1
    refine ⟨this.read, fun b hb => ?_⟩
    have hb : blk (slV y.2 y.1.arms.length 2) = some b := hb
    rw [blk_slV] at hb
    rw [hb] at this
    exact this.lt
end Go.Proofs.YtjlicambfepfiaaGreatDoor.Ab

set_option linter.unusedVariables false
set_option linter.unusedSimpArgs false
namespace Go.Proofs.YtjlicambfepfiaaGreatDoor.Ab
open Go Go.RowKit
set_option maxHeartbeats 4000000
set_option maxRecDepth 100000
theorem flat_set {α : Type} {f : α → List Value} {k : Nat} (hf : ∀ x, (f x).length = k) (hk : 0 < k) {y : α} {v : Value} : ∀ (l : List α) (j : Nat) (x : α), l[j]? = some x → f y = v :: (f x).drop 1 → putAt (l.flatMap f) (j * k) [v] = (l.set j y).flatMap f
  | [], j, x, h, _ => by simp at h
  | a :: l, 0, x, h, hy => by
    simp only [List.getElem?_cons_zero, Option.some.injEq] at h
    subst h
    have h1 : 1 ≤ (f a).length := by rw [hf]; omega
    simp only [putAt, List.set_cons_zero, List.flatMap_cons, hy, Nat.zero_mul, List.take_zero, List.nil_append, List.length_singleton, Nat.zero_add, List.drop_append_of_le_length h1, List.cons_append]
  | a :: l, j + 1, x, h, hy => by
    have ih := flat_set hf hk l j x (by simpa using h) hy
    simp only [putAt, List.set_cons_succ, List.flatMap_cons, List.length_singleton] at ih ⊢
    have e1 : (j + 1) * k = (f a).length + j * k := by rw [hf, Nat.add_mul]; omega
    have e2 : (j + 1) * k + 1 = (f a).length + (j * k + 1) := by omega
    rw [e2, e1, List.take_length_add_append, List.drop_length_add_append, List.append_assoc, List.append_assoc, ← ih]
    simp
theorem w_find4 {w0 : World} {Q : AQ} {fr : Fr} {m : Mem} {v : Value} {l : List DV} {s : ByteArray} (hv : DsV m v l) (hl : l.length ≤ 1000000) (f1 : fr 1 = .string s) (f7 : fr 7 = v) (hq : ∀ fr' m', fr' 6 = .bool true → Q .ret fr' m') : AbW Tryz.prog w0 rc3_3 Q fr m := by
  simp -implicitDefEqProofs (disch := first | assumption | (simp only [wnA]; done) | (simp only [wnA]; omega) | omega | fail) [rc3_3, wkA, retV, stabOk, dC, ev, fillD, pickCells, putAt, bnd, slD, List.getElem?_cons_zero, List.getElem?_cons_succ, dR.eq_20, Mem.cell, Mem.row, wmA, f1]
  rw [SK_bsl (cs := [.string s, .string ⟨#[115, 97]⟩, .string ⟨#[115, 99]⟩, .string ⟨#[]⟩]) (by simp [wkA, retV, stabOk, dC, ev, fillD, pickCells, putAt, bnd, slD, List.getElem?_cons_zero, List.getElem?_cons_succ, dR.eq_20]) (by simp)]
  obtain ⟨M, hM⟩ : ∃ M, m.push (.own [.string s, .string ⟨#[115, 97]⟩, .string ⟨#[115, 99]⟩, .string ⟨#[]⟩] 9) = M := ⟨_, rfl⟩
  have oM : Old m M := by subst hM; exact (Old.refl m).push _
  have gM : M.get m.next = .own [.string s, .string ⟨#[115, 97]⟩, .string ⟨#[115, 99]⟩, .string ⟨#[]⟩] 9 := by subst hM; rw [Mem.push_same]
  have nM : m.next < M.next := by subst hM; simp
  rw [hM]
  clear hM
  simp -implicitDefEqProofs (disch := first | assumption | (simp only [wnA]; done) | (simp only [wnA]; omega) | omega | fail) [wkA, retV, stabOk, dC, ev, fillD, pickCells, putAt, bnd, slD, List.getElem?_cons_zero, List.getElem?_cons_succ, dR.eq_20, Mem.cell, Mem.row, wmA]
  refine LoopW_of (fun k ts m' => ∃ j, j + k = 4 ∧ Old M m' ∧ ts 7 = v ∧ ts 30 = .slice (some ⟨m.next, 0, none⟩) 4 1 ∧ ts 31 = .int .i64 4 ∧ ts 32 = .int .i64 (j : Nat)) 4 ?_ ?_
  · exact ⟨0, rfl, Old.refl M, by simp [f7], by simp, by simp, by simp⟩
  · rintro k ts m1 K ⟨j, hj, o1, t7, t30, t31, t32⟩ hK
    simp -implicitDefEqProofs (disch := first | assumption | (simp only [wnA]; done) | (simp only [wnA]; omega) | omega | fail) [rc3_1, wkA, retV, stabOk, dC, ev, fillD, pickCells, putAt, bnd, slD, List.getElem?_cons_zero, List.getElem?_cons_succ, dR.eq_20, Mem.cell, Mem.row, wmA, t31, t32]
    by_cases hj4 : j < 4
    · have hj4' : (j : Int) < 4 := by omega
      have g1 := (o1.2 _ nM).trans gM
      have hs : ∃ u : List UInt8, ([.string s, .string ⟨#[115, 97]⟩, .string ⟨#[115, 99]⟩, .string ⟨#[]⟩] : List Value)[j]? = some (.string ⟨⟨u⟩⟩) := by
        rcases (show j = 0 ∨ j = 1 ∨ j = 2 ∨ j = 3 by omega) with rfl | rfl | rfl | rfl
        · exact ⟨s.data.toList, rfl⟩
        · exact ⟨_, rfl⟩
        · exact ⟨_, rfl⟩
        · exact ⟨_, rfl⟩
      obtain ⟨u, hu⟩ := hs
      have hidx : sidx 1 (.slice (some ⟨m.next, 0, none⟩) 4 1) (.int .i64 (j : Int)) = some (.pointer (some ⟨m.next, j, none⟩)) := by simpa using sidx_at (b := m.next) (o := 0) (n := 4) (c := 1) (j := j) (sz := 1) (k := .i64) hj4
      have hjw : IntKind.i64.wrap ((j : Int) + 1) = ((j + 1 : Nat) : Int) := by rw [w64 (by omega)]; omega
      generalize ([.string s, .string ⟨#[115, 97]⟩, .string ⟨#[115, 99]⟩, .string ⟨#[]⟩] : List Value) = L4 at *
      have hv1 := hv.old (oM.trans o1)
      simp -implicitDefEqProofs (disch := first | assumption | (simp only [wnA]; done) | (simp only [wnA]; omega) | omega | fail) [hj4, ltT hj4', rc3_0, wkA, retV, stabOk, dC, ev, fillD, pickCells, putAt, bnd, slD, List.getElem?_cons_zero, List.getElem?_cons_succ, dR.eq_20, Mem.cell, Mem.row, wmA, t7, t30, t32, hidx, g1, hu]
      refine c_Find hv1 hl fun m2 o2 => ?_
      simp -implicitDefEqProofs (disch := first | assumption | (simp only [wnA]; done) | (simp only [wnA]; omega) | omega | fail) [wkA, retV, stabOk, dC, ev, fillD, pickCells, putAt, bnd, slD, List.getElem?_cons_zero, List.getElem?_cons_succ, dR.eq_20, Mem.cell, Mem.row, wmA, t7]
      refine c_find (hv1.old o2) hl fun m3 o3 => ?_
      simp -implicitDefEqProofs (disch := first | assumption | (simp only [wnA]; done) | (simp only [wnA]; omega) | omega | fail) [wkA, retV, stabOk, dC, ev, fillD, pickCells, putAt, bnd, slD, List.getElem?_cons_zero, List.getElem?_cons_succ, dR.eq_20, Mem.cell, Mem.row, wmA, t32, hjw, bne]
      exact hK (k - 1) _ _ (by omega) ⟨j + 1, by omega, (o1.trans o2).trans o3, by simp [t7], by simp [t30], by simp [t31], by simp⟩
    · have hj4' : ¬ (j : Int) < 4 := by omega
      simp -implicitDefEqProofs (disch := first | assumption | (simp only [wnA]; done) | (simp only [wnA]; omega) | omega | fail) [hj4, ltF (show (4 : Int) ≤ (j : Int) by omega), rc3_2, wkA, retV, stabOk, dC, ev, fillD, pickCells, putAt, bnd, slD, List.getElem?_cons_zero, List.getElem?_cons_succ, dR.eq_20, Mem.cell, Mem.row, wmA]
      exact hq _ _ (by simp)
theorem l_DFind {w0 : World} {m : Mem} {v : Value} {l : List Ac7} {s : ByteArray} {kk : UInt8} (hp : Part L0 m) (hv : AsV m v l) (hl : l.length ≤ maxLen) :
    AbC Tryz.prog w0 3 [v, .string s, .int .u8 (kk.toNat : Int)] m fun v _ => v = .bool true := by
  refine AbC_fn ok3 (by simp) ?_
  simp -implicitDefEqProofs (disch := first | assumption | (simp only [wnA]; done) | (simp only [wnA]; omega) | omega | fail) [rc3, ro3, wkA, retV, stabOk, dC, ev, fillD, pickCells, putAt, bnd, slD, List.getElem?_cons_zero, List.getElem?_cons_succ, dR.eq_20, Mem.cell, Mem.row, wmA]
  refine c_awake hp ?_
  simp -implicitDefEqProofs (disch := first | assumption | (simp only [wnA]; done) | (simp only [wnA]; omega) | omega | fail) [rc3_4, wkA, retV, stabOk, dC, ev, fillD, pickCells, putAt, bnd, slD, List.getElem?_cons_zero, List.getElem?_cons_succ, dR.eq_20, Mem.cell, Mem.row, wmA]
  refine c_Steps hv hl fun m1 ob ls hO hll hW => ?_
  have hD := dsV_of hO.so hO.aa
  simp -implicitDefEqProofs (disch := first | assumption | (simp only [wnA]; done) | (simp only [wnA]; omega) | omega | fail) [wkA, retV, stabOk, dC, ev, fillD, pickCells, putAt, bnd, slD, List.getElem?_cons_zero, List.getElem?_cons_succ, dR.eq_20, Mem.cell, Mem.row, wmA, hO.so.slen]
  by_cases h1 : 1 < ls.length
  · have h1' : (1 : Int) < (ls.length : Int) := by omega
    obtain ⟨b, hb⟩ : ∃ b, ob = some b := by
      cases ob with
      | none => have := hO.so.2; omega
      | some b => exact ⟨b, rfl⟩
    subst hb
    have gb := hO.so.2.1
    have hlt := kk.toNat_lt
    have hw : IntKind.i64.wrap (kk.toNat : Int) = (kk.toNat : Int) := w64 (by omega)
    have hr2 : dBin .rem (.int .i64 (kk.toNat : Int)) (.int .i64 (ls.length : Int)) = some (.int .i64 ((kk.toNat % ls.length : Nat) : Int)) := by
      rw [dBin_rem (by omega), Int.tmod_eq_emod_of_nonneg (by omega)]
      rfl
    have hrn : kk.toNat % ls.length < ls.length := Nat.mod_lt _ (by omega)
    generalize kk.toNat % ls.length = q at *
    have hl0 : 0 < ls.length := by omega
    have e0 : (ls.flatMap dbC)[0]? = some (.string ⟨⟨ls[0].1.lb⟩⟩) := by
      have := flat_at' dbC_len ls (List.getElem?_eq_getElem hl0) (show 0 < 7 by omega)
      simpa [dbC, dsC] using this
    have es := flat_set (v := .string ⟨⟨ls[0].1.lb⟩⟩) (y := (({ ls[q].1 with lb := ls[0].1.lb } : DS), ls[q].2)) dbC_len (by omega) ls q ls[q] (List.getElem?_eq_getElem hrn) (by simp [dbC, dsC])
    have i0 : sidx 7 (.slice (some ⟨b, 0, none⟩) ls.length 7) (.int .i64 0) = some (.pointer (some ⟨b, 0, none⟩)) := by simpa using sidx_at (b := b) (o := 0) (n := ls.length) (c := 7) (j := 0) (sz := 7) (k := .i64) hl0
    have iq : sidx 7 (.slice (some ⟨b, 0, none⟩) ls.length 7) (.int .i64 (q : Int)) = some (.pointer (some ⟨b, q * 7, none⟩)) := by simpa using sidx_at (b := b) (o := 0) (n := ls.length) (c := 7) (j := q) (sz := 7) (k := .i64) hrn
    have hlf : q * 7 + 1 ≤ (ls.flatMap dbC).length := by rw [flat_len dbC_len]; omega
    obtain ⟨L, hL⟩ : ∃ L, ls.flatMap dbC = L := ⟨_, rfl⟩
    rw [hL] at gb e0 es hlf
    have hsl : slV (some b) ls.length 7 = .slice (some ⟨b, 0, none⟩) ls.length 7 := rfl
    obtain ⟨M, hM⟩ : ∃ M, m1.set b (.own (putAt L (q * 7) [.string ⟨⟨ls[0].1.lb⟩⟩]) 29) = M := ⟨_, rfl⟩
    simp -implicitDefEqProofs (disch := first | assumption | (simp only [wnA]; done) | (simp only [wnA]; omega) | omega | fail) [h1, h1', gtT h1', wkA, retV, stabOk, dC, ev, fillD, pickCells, putAt, bnd, slD, List.getElem?_cons_zero, List.getElem?_cons_succ, dR.eq_20, Mem.cell, Mem.row, wmA, hsl, hw, hr2, i0, iq, gb, e0, getL e0]
    refine SK_stm (i := b) (o := q * 7) (vs := [.string ⟨⟨ls[0].1.lb⟩⟩]) (cs := L) (e := 29) (M := M) (by simp [wkA, retV, stabOk, dC, ev, fillD, pickCells, putAt, bnd, slD, List.getElem?_cons_zero, List.getElem?_cons_succ, dR.eq_20]) gb (by simp [wkA, retV, stabOk, dC, ev, fillD, pickCells, putAt, bnd, slD, List.getElem?_cons_zero, List.getElem?_cons_succ, dR.eq_20]) hlf rfl rfl hM ?_
    have hO2 : SlO M 29 7 (some b) ((ls.set q (({ ls[q].1 with lb := ls[0].1.lb } : DS), ls[q].2)).flatMap dbC) (ls.set q (({ ls[q].1 with lb := ls[0].1.lb } : DS), ls[q].2)).length := by
      refine ⟨by rw [flat_len dbC_len], ?_, ?_⟩
      · rw [← es, ← hM, Mem.set_same]
      · have := hO.so.lt; rw [← hM]; exact this
    have hA2 : ArmsAt M m.next (ls.set q (({ ls[q].1 with lb := ls[0].1.lb } : DS), ls[q].2)) := by
      have hk : ∀ x ∈ ls, SlO M 49 2 x.2 (x.1.arms.flatMap Arm.cells) x.1.arms.length ∧ (∀ i, x.2 = some i → m.next ≤ i) := fun x hx => by
        have h0 := hO.aa x hx
        refine ⟨?_, h0.2⟩
        rw [← hM]
        exact h0.1.set (h0.1.ne hO.so.2.1 (by intro c hc; injection hc; contradiction)) _
      intro x hx
      rcases List.mem_or_eq_of_mem_set hx with hx | rfl
      · exact hk x hx
      · exact hk ls[q] (List.getElem_mem hrn)
    have hD2 := dsV_of hO2 hA2
    have hlen : (ls.set q (({ ls[q].1 with lb := ls[0].1.lb } : DS), ls[q].2)).length = ls.length := List.length_set
    rw [hlen] at hD2
    clear hM
    simp -implicitDefEqProofs (disch := first | assumption | (simp only [wnA]; done) | (simp only [wnA]; omega) | omega | fail) [wkA, retV, stabOk, dC, ev, fillD, pickCells, putAt, bnd, slD, List.getElem?_cons_zero, List.getElem?_cons_succ, dR.eq_20, Mem.cell, Mem.row, wmA]
    exact w_find4 (s := s) hD2 (by rw [List.length_map, hlen]; omega) (by simp [frA_at]) (by simp; rfl) fun fr' m' h6 => by simp [h6, wkA, retV, stabOk, dC, ev, fillD, pickCells, putAt, bnd, slD, List.getElem?_cons_zero, List.getElem?_cons_succ, dR.eq_20]
  · have h1' : ¬ (1 : Int) < (ls.length : Int) := by omega
    generalize slV ob ls.length 7 = sv at *
    simp -implicitDefEqProofs (disch := first | assumption | (simp only [wnA]; done) | (simp only [wnA]; omega) | omega | fail) [h1, gtF (show (ls.length : Int) ≤ 1 by omega), wkA, retV, stabOk, dC, ev, fillD, pickCells, putAt, bnd, slD, List.getElem?_cons_zero, List.getElem?_cons_succ, dR.eq_20, Mem.cell, Mem.row, wmA]
    exact w_find4 (s := s) hD (by rw [List.length_map]; omega) (by simp [frA_at]) (by simp) fun fr' m' h6 => by simp [h6, wkA, retV, stabOk, dC, ev, fillD, pickCells, putAt, bnd, slD, List.getElem?_cons_zero, List.getElem?_cons_succ, dR.eq_20]
end Go.Proofs.YtjlicambfepfiaaGreatDoor.Ab

namespace Go.Proofs.YtjlicambfepfiaaGreatDoor.dialogFind
open Go Go.ChangeShapes Go.WideShapes Go.ChangeAt Go.RowKit Go.Proofs.YtjlicambfepfiaaGreatDoor.Ab
set_option linter.unusedVariables false
theorem own : ownKnob Tryz.prog.godebug = none := by kernel_rfl
theorem laidOut : laidOutB Tryz.prog = true := by kernel_rfl
set_option maxRecDepth 100000 in
theorem contract (H : Type) (enc : TypeId × Value → H) (W : World) (base : Nat) (args : Array Value) (ds gs : List (DataW H)) (before : List MemPlace)
    (hval : ∀ (j : Nat) t v, Tryz.f3.params[j]? = some t → args[j]? = some v → Value.okWide Tryz.prog W .any base t v)
    (hW : DataW.Whole enc Tryz.prog Tryz.f3.params.toList Rows.dialogFindSpec.vars false W args.toList ds gs before) (hL : laidMetH Tryz.prog Rows.dialogFindRow.laid W) :
    Calls Tryz.prog 3 args W fun e W' => ∃ v, e = .returned v ∧ Rows.dialogFindSpec.post enc Tryz.prog Tryz.f3 false true false false W args v W' := by
  have hW' := hW
  obtain ⟨hL', hLh⟩ := (show laidMet Tryz.prog (Rows.dialogFindRow.laid.filter fun x => x.2.handleName?.isNone) W ∧ handlesMet Tryz.prog (Rows.dialogFindRow.laid.filter fun x => x.2.handleName?.isSome) W from hL)
  obtain ⟨p, q, hA0, hV, rfl, hfz, hnd⟩ := hW
  have hA : DataW.TrodAll enc Tryz.prog W 0 (fun _ => true) true Tryz.f3.params.toList args.toList ds p := hA0
  rw [Tryz.params3] at hA hval
  obtain ⟨v0, vs0, d0, ds0, p0, q0, hargs, rfl, rfl, h0, r0⟩ := trodAll_cons hA
  obtain ⟨v1, vs1, d1, ds1, p1, q1, rfl, rfl, rfl, h1, r1⟩ := trodAll_cons r0
  obtain ⟨v2, vs2, d2, ds2, p2, q2, rfl, rfl, rfl, h2, r2⟩ := trodAll_cons r1
  obtain ⟨rfl, rfl, rfl⟩ := trodAll_nil r2
  obtain rfl : args = #[v0, v1, v2] := by cases args; simp_all
  obtain ⟨rfl, rfl⟩ := trodVars_none hV
  obtain ⟨a0, len0, cap0, rfl⟩ := okWide_slice Tryz.underlying22 (hval 0 22 v0 rfl rfl)
  have lt0 : ∀ x ∈ p0, x.block < W.heap.size := by obtain ⟨m, hm⟩ := h0; exact DataW.trod_lt m _ _ _ hm
  obtain ⟨a1, rfl⟩ := okWide_string Tryz.underlying9 (hval 1 9 v1 rfl rfl)
  have lt1 : ∀ x ∈ p1, x.block < W.heap.size := by obtain ⟨m, hm⟩ := h1; exact DataW.trod_lt m _ _ _ hm
  obtain ⟨a2, rfl⟩ := okWide_int Tryz.underlying5 (hval 2 5 v2 rfl rfl)
  have lt2 : ∀ x ∈ p2, x.block < W.heap.size := by obtain ⟨m, hm⟩ := h2; exact DataW.trod_lt m _ _ _ hm
  have s : St Tryz.prog W (G0 Tryz.prog) (toMem L0) W := St.laid globals_size L0_get laid_ok (laidIn hL' (List.mem_of_getElem? (i := 0) rfl) (List.mem_of_getElem? (i := 1) rfl) (List.mem_of_getElem? (i := 2) rfl))
  have hp : Part L0 (toMem L0) := Part.of L0_part (Nat.le_refl _) fun _ _ => rfl
  obtain ⟨G0, m0, x0, t0, g0, s0, u0, b0, f0, k0⟩ := arg_one (k := 5) (s := (.sl actShp)) (by kernel_rfl) h0 rfl s
  have hp := g0.part hp
  obtain ⟨G1, m1, x1, t1, g1, s1, u1, b1, f1, k1⟩ := arg_one (k := 5) (s := .str) (by kernel_rfl) h1 rfl s0
  have hp := g1.part hp
  have b0 := b0.mono g1.2.1 g1.2.2
  have u0 := u0.mono g1.1
  obtain ⟨G2, m2, x2, t2, g2, s2, u2, b2, f2, k2⟩ := arg_one (k := 5) (s := .int .u8) (by kernel_rfl) h2 rfl s1
  have hp := g2.part hp
  have b0 := b0.mono g2.2.1 g2.2.2
  have u0 := u0.mono g2.1
  have b1 := b1.mono g2.2.1 g2.2.2
  have u1 := u1.mono g2.1
  refine (AbC_true s2 (.cons _ _ _ _ u0 (.cons _ _ _ _ u1 (.cons _ _ _ _ u2 .nil))) ((by obtain ⟨xs, c0, z0⟩ := absT_acts b0 f0; obtain ⟨s, hx, -, w⟩ := absT_str b1 f1; cases hx; obtain ⟨kk, hk, -⟩ := arg_u8 _ _ f2 b2; cases hk; exact l_DFind hp c0 z0)) (by kernel_rfl)).mono fun e W' ⟨he, bel⟩ => ?_
  subst he
  exact ⟨_, rfl, _, _, _, [], _, [], hW', trodAll_mk1 (shut_bool Tryz.underlying4 _), (trodAll_cons_mk (Below.trod laidOut (by kernel_rfl) (of_decide_eq_true (by kernel_rfl)) h0 bel lt0) (trodAll_cons_mk (Below.trod laidOut (by kernel_rfl) (of_decide_eq_true (by kernel_rfl)) h1 bel lt1) (trodAll_cons_mk (Below.trod laidOut (by kernel_rfl) (of_decide_eq_true (by kernel_rfl)) h2 bel lt2) trodAll_mk0))), rfl, bel.frame _, fun h => by cases h⟩
noncomputable def laidWorld (os : Os) : World :=
  let N := (World.settled Tryz.prog os).heap.size
  { World.holding Tryz.prog os ⟨#[.cells #[.string ⟨#[118, 97, 108, 117, 101, 32, 111, 117, 116, 32, 111, 102, 32, 114, 97, 110, 103, 101]⟩] 226, .cells #[.string ⟨#[105, 110, 118, 97, 108, 105, 100, 32, 115, 121, 110, 116, 97, 120]⟩] 226], #[], []⟩ with heap := (((((((World.holding Tryz.prog os ⟨#[.cells #[.string ⟨#[118, 97, 108, 117, 101, 32, 111, 117, 116, 32, 111, 102, 32, 114, 97, 110, 103, 101]⟩] 226, .cells #[.string ⟨#[105, 110, 118, 97, 108, 105, 100, 32, 115, 121, 110, 116, 97, 120]⟩] 226], #[], []⟩).heap.modify 5 fun | .cells _ t frozen => .cells ⟨e32⟩ t frozen | o => o).modify 6 fun | .cells _ t frozen => .cells ⟨e64⟩ t frozen | o => o).modify 2 fun | .cells _ t frozen => .cells ⟨e10⟩ t frozen | o => o).modify 4 fun | .cells _ t frozen => .cells #[.iface 224 (.pointer (some ⟨N, 0, none⟩))] t frozen | o => o).modify 3 fun | .cells _ t frozen => .cells #[.iface 224 (.pointer (some ⟨N + 1, 0, none⟩))] t frozen | o => o).modify 0 fun | .cells _ t frozen => .cells #[.iface 158 (.agg #[.pointer (some ⟨7, 36, none⟩)])] t frozen | o => o) }
theorem laid_met (os : Os) : laidMetH Tryz.prog Rows.dialogFindRow.laid ((laidWorld os).forCall (fun _ _ => 0) ⟨#[], #[(.slice none 0 0 : Value), (.string .empty : Value), (.int .u8 0 : Value)], []⟩).memory :=
  laidMetH_of_parts (laidMet_of_run' 8 (by kernel_rfl) (by kernel_rfl)) (by kernel_rfl)
theorem reads (os : Os) {H : Type} (enc : TypeId × Value → H) : ∃ places, DataW.whole enc Tryz.prog ((laidWorld os).forCall (fun _ _ => 0) ⟨#[], #[(.slice none 0 0 : Value), (.string .empty : Value), (.int .u8 0 : Value)], []⟩).memory Tryz.f3.params.toList Rows.dialogFindSpec.vars false [(.slice none 0 0 : Value), (.string .empty : Value), (.int .u8 0 : Value)] 8 = some ([.nil, .lit (.string []), .lit (.int .u8 0)], [], places) :=
  ⟨[], by kernel_rfl⟩
set_option maxRecDepth 100000 in
theorem lifted (os : Os) (started : os.Started) (H : Type) (enc : TypeId × Value → H) (F : Stop.Interp) :
    ReturnsInHanded {} Tryz.checked os 3 .any ((OpenSpec.ofChange Rows.dialogFindSpec).preRow enc Tryz.prog Tryz.f3 Rows.dialogFindRow.domain false Rows.dialogFindRow.laid) (((OpenSpec.ofChange Rows.dialogFindSpec).at F).post enc Tryz.prog Tryz.f3 false true false false) := by
  obtain ⟨places, hx⟩ := reads os enc
  refine returnsInHanded_of_row (C := Tryz.checked) (s := (OpenSpec.ofChange Rows.dialogFindSpec)) own started (by kernel_rfl) Tryz.func3
    (witness_row_atRef (enc := enc) (C := Tryz.checked) false (laidWorld os) #[(.slice none 0 0 : Value), (.string .empty : Value), (.int .u8 0 : Value)] rfl (by kernel_rfl) (by kernel_rfl) (by kernel_rfl)
      (OpenSpec.preRow_of_cond 8 hx (by kernel_rfl) (fun k hk => by cases hk) (by kernel_rfl) (laid_met os))) ?_
  intro W base args ds gs before hval hW _ _ _ hL _ _
  exact contract H enc W base args ds gs before hval hW hL
theorem over : Rows.DialogFindSaid :=
  OpenClaim.holds_of_cond 3 Tryz.f3 rfl rfl rfl rfl rfl rfl rfl ⟨rfl, rfl, rfl, rfl, rfl⟩ rfl rfl rfl rfl rfl (by kernel_rfl) Tryz.func3 (by kernel_rfl)
    (of_decide_eq_true (by kernel_rfl)) (by unfold Func.isWrapper; first | (rw [if_pos (by decide +kernel)]; kernel_rfl) | (rw [if_neg (by decide +kernel)]; exact ⟨rfl, rfl⟩))
    (fun os started H enc _ F => by rw [OpenClaim.pre_eq_preRow]; exact lifted os started H enc F)
theorem plain (f : FuncId) (fn : Func) (hf : Tryz.pinned.checked.prog.funcNamed "lifeline/lifelinelaw17.DialogFind" = some f) (hfn : Tryz.pinned.checked.prog.funcs[f]? = some fn) :
    true = Tryz.pinned.checked.prog.looks [] ∧ ∀ (j : Nat) t, fn.params[j]? = some t → Tryz.pinned.checked.prog.wantsStandIn t = false := by
  obtain rfl : f = 3 := Option.some.inj ((show Tryz.prog.funcNamed "lifeline/lifelinelaw17.DialogFind" = some 3 by kernel_rfl).symm.trans hf) |>.symm
  obtain rfl : fn = Tryz.f3 := (Option.some.inj (Tryz.func3.symm.trans hfn)).symm
  refine ⟨by kernel_rfl, fun j t ht => ?_⟩
  rw [Tryz.params3] at ht
  have hall : ∀ t ∈ [22, 9, 5], Tryz.prog.wantsStandIn t = false := by
    intro t ht
    simp only [List.mem_cons, List.mem_nil_iff, or_false] at ht
    rcases ht with rfl | rfl | rfl <;> kernel_rfl
  exact hall t (by simpa using Array.mem_of_getElem? ht)
theorem proved : Rows.DialogFindCardSaid :=
  Claim7.holds_tied_plain_at .later [] _ _ _ _ over (fun _ h => by cases h) (by kernel_rfl) (fun _ h => by cases h) dialogFind_row_tie rfl ⟨rfl, rfl⟩ (by kernel_rfl) rfl plain (by kernel_rfl)
#print axioms proved
end Go.Proofs.YtjlicambfepfiaaGreatDoor.dialogFind
