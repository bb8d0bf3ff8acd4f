/- Data of other lengths tell no file: the law. -/
import Derived.Test.YtkpjbpfemkkheaaDoorAbz
import Derived.Test.YtkpjbpfemkkheaaDoorAbh7
set_option linter.unusedVariables false
set_option linter.unusedSimpArgs false
namespace Go.Proofs.YtkpjbpfemkkheaaDoor.Ab
open Go Go.RowKit
set_option maxHeartbeats 1000000
set_option maxRecDepth 100000

theorem SK_app2 {P : Program} {w0 : World} {ts : Fr} {m base : Mem} {R : Value → Mem → Prop} {e sz bytes n k : Nat} {ob : Option Nat} {cs ys : List Value} {x y : Operand} (hb : Old base m) (h : SlO m e sz ob cs n) (hob : ∀ b, ob = some b → base.next ≤ b)
    (hx : ev ts x = slV ob n sz) (hy : elemsV m sz (ev ts y) = some ys) (hk : lenV (ev ts y) = k) (h1 : ys.all oneC = true) (h2 : (n + k) * bytes ≤ 140737488355328) (h3 : n + k ≤ maxLen) (hl : ys.length = k * sz)
    (hR : ∀ ob' m', Old base m' → SlO m' e sz ob' (cs ++ ys) (n + k) → (∀ b, ob' = some b → base.next ≤ b) → R (slV ob' (n + k) sz) m') : SK P w0 (.e (.app e sz bytes x y)) ts m R := by
  by_cases hpos : 0 < k
  · refine SK_ap h hx hy hk hpos h1 h2 h3 hl (hR _ _ ((hb.kill hob).push _) (SlO.new ?_) ?_)
    · rw [List.length_append, h.1, hl, Nat.add_mul]
    · intro b hb'; cases hb'; exact hb.1
  · obtain rfl : k = 0 := by omega
    obtain rfl : ys = [] := by simpa using hl
    refine SK_app0 hx hy hk ?_
    have := hR ob m hb (by simpa using h) hob
    simpa using this

theorem own_take {m : Mem} {i K : Nat} {l : List UInt8} (h : m.get i = .own (l.map byteV) 5) (hK : K ≤ l.length) : SlR m 1 (.slice (some ⟨i, 0, none⟩) K 1) ((l.take K).map byteV) (l.take K).length := by
  have hl : (l.take K).length = K := by rw [List.length_take]; omega
  refine ⟨by simp, .inr ⟨i, 0, l.map byteV, by rw [hl], by rw [h]; rfl, by rw [hl]; simp; omega, ?_⟩⟩
  rw [hl, List.drop_zero, Nat.mul_one, List.map_take]
theorem alst {m : Mem} {Z V : List Value} {e : TypeId} : Old m ((m.push (.own Z e)).set m.next (.own V e)) ∧ ((m.push (.own Z e)).set m.next (.own V e)).next = m.next + 1 := ⟨((Old.refl m).push _).set (Nat.le_refl _) _, by simp⟩
def zeroFl : Fl := ⟨⟨#[]⟩, 0, 0, 0⟩
theorem c_Read' {w0 : World} {m : Mem} {v : Value} {ds : List UInt8} {Q : Value → Mem → Prop} (hp : Part L0 m) (ht : Ten w0) (hE : ErrV w0) (hv : SlR m 1 v (ds.map byteV) ds.length) (hvb : ∀ b, blk v = some b → b < m.next)
    (hq : ∀ m' g b, Old m m' → (b = true → mayB g = true ∧ ds = padL (tellL g)) → (b = false → g = zeroFl ∧ ∀ f, mayB f = true → ds ≠ padL (tellL f)) → Q (.tuple ⟨[g.v, .bool b]⟩) m') :
    AbC Tryd.prog w0 14 [v] m Q :=
  c_Read hp ht hE hv hvb (fun m' o h => hq m' zeroFl false o (fun e => by cases e) fun _ => ⟨rfl, h⟩) fun m' f o h1 h2 => hq m' f true o (fun _ => ⟨h1, h2⟩) fun e => by cases e
def aF : Fl := ⟨⟨#[97]⟩, 0, 0, 0⟩
theorem may_a : mayB aF = true := by decide +kernel

theorem l_Short {w0 : World} {m : Mem} {f : Fl} {v1 v2 : Value} {ns more : List UInt8} {z : Int} (hp : Part L0 m) (ht : Ten w0) (hE : ErrV w0) (hf : f.ok) (h1 : SlR m 1 v1 (ns.map byteV) ns.length) (b1 : ∀ b, blk v1 = some b → b < m.next) (h2 : SlR m 1 v2 (more.map byteV) more.length) (b2 : ∀ b, blk v2 = some b → b < m.next)
    (l1 : ns.length ≤ maxLen) (l2 : more.length ≤ 1048576) (hz : 0 ≤ z ∧ z ≤ 255) :
    AbC Tryd.prog w0 8 [f.v, v1, .int .u8 z, v2] m fun v _ => v = .bool true := by
  refine AbC_fn ok8 (by simp) ?_
  have hml : maxLen ≤ 9223372036854775807 := by unfold maxLen; omega
  have hfv : cellsV f.v = [.string f.nm, .int .i64 f.size, .int .i64 f.time, .int .i64 f.mode] := rfl
  obtain ⟨zn, rfl⟩ := Int.eq_ofNat_of_zero_le hz.1
  have r1 : (zn : Int).tmod 128 = ((zn % 128 : Nat) : Int) := by rw [Int.tmod_eq_emod_of_nonneg (by omega)]; omega
  have wz : IntKind.i64.wrap (zn : Int) = (zn : Int) := w64 (by omega)
  have r0 : (128 : Int) ≠ 0 := by omega
  simp -implicitDefEqProofs (disch := first | assumption | (simp only [wnA]; done) | (simp only [wnA]; omega) | omega | fail) [rc8, ro8, wkA, retV, stabOk, dC, ev, fillD, pickCells, putAt, bnd, slD, List.getElem?_cons_zero, List.getElem?_cons_succ, dR.eq_20, Mem.cell, Mem.row, wmA, hfv]
  have o0 : Old m (m.push (.own [.string f.nm, .int .i64 f.size, .int .i64 f.time, .int .i64 f.mode] 25)) := (Old.refl m).push _
  have gF : (m.push (.own [.string f.nm, .int .i64 f.size, .int .i64 f.time, .int .i64 f.mode] 25)).get m.next = .own [.string f.nm, .int .i64 f.size, .int .i64 f.time, .int .i64 f.mode] 25 := by simp
  have nF : m.next + 1 = (m.push (.own [.string f.nm, .int .i64 f.size, .int .i64 f.time, .int .i64 f.mode] 25)).next := by simp
  generalize m.push (.own [.string f.nm, .int .i64 f.size, .int .i64 f.time, .int .i64 f.mode] 25) = m0 at *
  refine c_awake (o0.part hp) ?_
  simp -implicitDefEqProofs (disch := first | assumption | (simp only [wnA]; done) | (simp only [wnA]; omega) | omega | fail) [rc8_1, wkA, retV, stabOk, dC, ev, fillD, pickCells, putAt, bnd, slD, List.getElem?_cons_zero, List.getElem?_cons_succ, dR.eq_20, Mem.cell, Mem.row, wmA]
  refine c_nums (h1.keep fun b hb => o0.2 b (b1 b hb)) (by omega) ?_
  have mA := nums_may ns (z := 5) (by omega)
  simp -implicitDefEqProofs (disch := first | assumption | (simp only [wnA]; done) | (simp only [wnA]; omega) | omega | fail) [wkA, retV, stabOk, dC, ev, fillD, pickCells, putAt, bnd, slD, List.getElem?_cons_zero, List.getElem?_cons_succ, dR.eq_20, Mem.cell, Mem.row, wmA]
  refine c_Make (f := ⟨⟨⟨nameL ns⟩⟩, 5, 0, 0⟩) (o0.part hp) ht (by show (nameL ns).length ≤ _; simp [nameL]; omega) (fun e => by rw [mA] at e; cases e) fun _ m1 i1 p1 q1 q2 q3 => ?_
  have lA := pad_len mA
  have oo1 := o0.trans p1
  rw [← p1.2 _ (by omega)] at gF
  have n1 : m.next < m1.next := by omega
  have hd := own_read q3 q2 lA
  obtain ⟨K, hK⟩ : ∃ K, zn % 128 = K := ⟨_, rfl⟩
  have hK1 : K < 128 := by omega
  rw [hK] at r1
  have hK2 : (K : Int) ≤ 128 := by omega
  have hK3 : K ≤ 128 := by omega
  have s3 := own_take (K := K) q3 (by rw [lA]; omega)
  simp -implicitDefEqProofs (disch := first | assumption | (simp only [wnA]; done) | (simp only [wnA]; omega) | omega | fail) [wkA, retV, stabOk, dC, ev, fillD, pickCells, putAt, bnd, slD, List.getElem?_cons_zero, List.getElem?_cons_succ, dR.eq_20, Mem.cell, Mem.row, wmA, rc8_0, wz, dBin_rem, r1, r0, hK2, hK3]
  refine c_Read (oo1.part hp) ht hE s3 (fun b hb => by simp only [blk, Option.some.injEq] at hb; omega) (fun m2 o2 _ => ?_) fun m2 f' _ hf' e => by
    have e2 := congrArg List.length e
    rw [pad_len hf', List.length_take, lA] at e2
    omega
  rw [← o2.2 _ q2] at q3
  rw [← o2.2 _ (by omega)] at gF
  have n2 := o2.1
  have oo2 := oo1.trans o2
  clear o2 s3
  simp -implicitDefEqProofs (disch := first | assumption | (simp only [wnA]; done) | (simp only [wnA]; omega) | omega | fail) [wkA, retV, stabOk, dC, ev, fillD, pickCells, putAt, bnd, slD, List.getElem?_cons_zero, List.getElem?_cons_succ, dR.eq_20, Mem.cell, Mem.row, wmA, zeroF]
  refine SK_st (i := m2.next) (o := 0) (by simp [wkA, retV, stabOk, dC, ev, fillD, pickCells, putAt, bnd, slD, List.getElem?_cons_zero, List.getElem?_cons_succ, dR.eq_20]) (e := 25) (by simp -implicitDefEqProofs (disch := first | assumption | (simp only [wnA]; done) | (simp only [wnA]; omega) | omega | fail) [Mem.cell, Mem.row, wmA]; rfl) (by simp) (by simp [wkA, retV, stabOk, dC, ev, fillD, pickCells, putAt, bnd, slD, List.getElem?_cons_zero, List.getElem?_cons_succ, dR.eq_20]) (by simp [wkA, retV, stabOk, dC, ev, fillD, pickCells, putAt, bnd, slD, List.getElem?_cons_zero, List.getElem?_cons_succ, dR.eq_20, oneC]) ?_
  simp -implicitDefEqProofs (disch := first | assumption | (simp only [wnA]; done) | (simp only [wnA]; omega) | omega | fail) [wkA, retV, stabOk, dC, ev, fillD, pickCells, putAt, bnd, slD, List.getElem?_cons_zero, List.getElem?_cons_succ, dR.eq_20, Mem.cell, Mem.row, wmA]
  have oM := alst (m := m2) (Z := [.string ⟨#[]⟩, .int .i64 0, .int .i64 0, .int .i64 0]) (V := [.string ⟨#[]⟩, .int .i64 0, .int .i64 0, .int .i64 0]) (e := 25)
  generalize (m2.push (.own [.string ⟨#[]⟩, .int .i64 0, .int .i64 0, .int .i64 0] 25)).set m2.next (.own [.string ⟨#[]⟩, .int .i64 0, .int .i64 0, .int .i64 0] 25) = m3 at *
  rw [← oM.1.2 _ (by omega)] at q3 gF
  have n3 := oM.2
  have oo3 := oo2.trans oM.1
  clear oM
  have hA3 := (own_read q3 (by omega) lA).elems
  refine SK_app2 (base := m3) (ob := none) (cs := []) (n := 0) (k := 128) (ys := (padL (tellL ⟨⟨⟨nameL ns⟩⟩, 5, 0, 0⟩)).map byteV) (Old.refl m3) ⟨rfl, rfl⟩ (fun b hb => by cases hb) (by simp [wkA, retV, stabOk, dC, ev, fillD, pickCells, putAt, bnd, slD, List.getElem?_cons_zero, List.getElem?_cons_succ, dR.eq_20, slV]) (by simp [wkA, retV, stabOk, dC, ev, fillD, pickCells, putAt, bnd, slD, List.getElem?_cons_zero, List.getElem?_cons_succ, dR.eq_20]; exact hA3) (by simp [wkA, retV, stabOk, dC, ev, fillD, pickCells, putAt, bnd, slD, List.getElem?_cons_zero, List.getElem?_cons_succ, dR.eq_20]) (byteV_oneC _) (by omega) (by simp only [maxLen]; omega) (by simp [lA]) fun ob4 m4 o4 s4 b4 => ?_
  have h24 := h2.keep (m' := m4) fun b hb => by
    have := b2 b hb
    rw [o4.2 _ (by omega), oo3.2 _ this]
  simp -implicitDefEqProofs (disch := first | assumption | (simp only [wnA]; done) | (simp only [wnA]; omega) | omega | fail) [wkA, retV, stabOk, dC, ev, fillD, pickCells, putAt, bnd, slD, List.getElem?_cons_zero, List.getElem?_cons_succ, dR.eq_20, Mem.cell, Mem.row, wmA]
  refine SK_app2 (base := m3) (n := 0 + 128) (k := more.length) (ys := more.map byteV) o4 s4 b4 (by simp [wkA, retV, stabOk, dC, ev, fillD, pickCells, putAt, bnd, slD, List.getElem?_cons_zero, List.getElem?_cons_succ, dR.eq_20]) (by simp [wkA, retV, stabOk, dC, ev, fillD, pickCells, putAt, bnd, slD, List.getElem?_cons_zero, List.getElem?_cons_succ, dR.eq_20, frA_at]; exact h24.elems) (by simp [wkA, retV, stabOk, dC, ev, fillD, pickCells, putAt, bnd, slD, List.getElem?_cons_zero, List.getElem?_cons_succ, dR.eq_20, frA_at]; exact h24.lenV) (byteV_oneC _) (by omega) (by simp only [maxLen]; omega) (by simp) fun ob5 m5 o5 s5 b5 => ?_
  simp -implicitDefEqProofs (disch := first | assumption | (simp only [wnA]; done) | (simp only [wnA]; omega) | omega | fail) [wkA, retV, stabOk, dC, ev, fillD, pickCells, putAt, bnd, slD, List.getElem?_cons_zero, List.getElem?_cons_succ, dR.eq_20, Mem.cell, Mem.row, wmA]
  have s5' : SlR m5 1 (slV ob5 (128 + more.length) 1) ((padL (tellL ⟨⟨⟨nameL ns⟩⟩, 5, 0, 0⟩) ++ more).map byteV) (padL (tellL ⟨⟨⟨nameL ns⟩⟩, 5, 0, 0⟩) ++ more).length := by
    have := s5.read
    rw [Nat.zero_add] at this
    rw [List.map_append, List.length_append, lA]
    simpa using this
  refine c_Read' ((oo3.trans o5).part hp) ht hE s5' (fun b hb => by rw [blk_slV] at hb; subst hb; exact s5.lt) fun m6 g6 c6 o6 y6 z6 => ?_
  have hc6 : c6 = (more.length == 0) := by
    cases c6 with
    | true =>
      have := congrArg List.length (y6 rfl).2
      rw [pad_len (y6 rfl).1, List.length_append, lA] at this
      have : more.length = 0 := by omega
      simp [this]
    | false =>
      by_cases h0 : more.length = 0
      · have e0 : more = [] := by simpa using h0
        have := (z6 rfl).2 _ mA
        rw [e0, List.append_nil] at this
        exact (this rfl).elim
      · simp [h0]
  have oo6 := (oo3.trans o5).trans o6
  have hn6 : m3.next ≤ m6.next := (o5.trans o6).1
  rw [← (o5.trans o6).2 _ (by omega)] at q3 gF
  clear y6 z6 o6 s5' s5 o5
  simp only [Fl.v]
  simp -implicitDefEqProofs (disch := first | assumption | (simp only [wnA]; done) | (simp only [wnA]; omega) | omega | fail) [wkA, retV, stabOk, dC, ev, fillD, pickCells, putAt, bnd, slD, List.getElem?_cons_zero, List.getElem?_cons_succ, dR.eq_20, Mem.cell, Mem.row, wmA]
  refine SK_st (i := m6.next) (o := 0) (by simp [wkA, retV, stabOk, dC, ev, fillD, pickCells, putAt, bnd, slD, List.getElem?_cons_zero, List.getElem?_cons_succ, dR.eq_20]) (e := 25) (by simp -implicitDefEqProofs (disch := first | assumption | (simp only [wnA]; done) | (simp only [wnA]; omega) | omega | fail) [Mem.cell, Mem.row, wmA]; rfl) (by simp) (by simp [wkA, retV, stabOk, dC, ev, fillD, pickCells, putAt, bnd, slD, List.getElem?_cons_zero, List.getElem?_cons_succ, dR.eq_20]) (by simp [wkA, retV, stabOk, dC, ev, fillD, pickCells, putAt, bnd, slD, List.getElem?_cons_zero, List.getElem?_cons_succ, dR.eq_20, oneC]) ?_
  simp -implicitDefEqProofs (disch := first | assumption | (simp only [wnA]; done) | (simp only [wnA]; omega) | omega | fail) [wkA, retV, stabOk, dC, ev, fillD, pickCells, putAt, bnd, slD, List.getElem?_cons_zero, List.getElem?_cons_succ, dR.eq_20, Mem.cell, Mem.row, wmA]
  have oM := alst (m := m6) (Z := [.string ⟨#[]⟩, .int .i64 0, .int .i64 0, .int .i64 0]) (V := [.string g6.nm, .int .i64 g6.size, .int .i64 g6.time, .int .i64 g6.mode]) (e := 25)
  generalize (m6.push (.own [.string ⟨#[]⟩, .int .i64 0, .int .i64 0, .int .i64 0] 25)).set m6.next (.own [.string g6.nm, .int .i64 g6.size, .int .i64 g6.time, .int .i64 g6.mode] 25) = m7 at *
  rw [← oM.1.2 _ (by omega)] at q3 gF
  have n7 := oM.2
  have oo7 := oo6.trans oM.1
  clear oM
  refine c_Read' (oo7.part hp) ht hE (own_read q3 (by omega) lA) (fun b hb => by simp only [blk, Option.some.injEq] at hb; omega) fun m8 g8 c8 o8 y8 z8 => ?_
  have hc8 : c8 = true := by
    cases c8 with
    | true => rfl
    | false => exact ((z8 rfl).2 _ mA rfl).elim
  subst hc8
  have oo8 := oo7.trans o8
  have hn8 : m7.next ≤ m8.next := o8.1
  rw [← o8.2 _ (by omega)] at q3 gF
  clear y8 z8 o8
  simp only [Fl.v]
  simp -implicitDefEqProofs (disch := first | assumption | (simp only [wnA]; done) | (simp only [wnA]; omega) | omega | fail) [wkA, retV, stabOk, dC, ev, fillD, pickCells, putAt, bnd, slD, List.getElem?_cons_zero, List.getElem?_cons_succ, dR.eq_20, Mem.cell, Mem.row, wmA]
  refine SK_st (i := m8.next) (o := 0) (by simp [wkA, retV, stabOk, dC, ev, fillD, pickCells, putAt, bnd, slD, List.getElem?_cons_zero, List.getElem?_cons_succ, dR.eq_20]) (e := 25) (by simp -implicitDefEqProofs (disch := first | assumption | (simp only [wnA]; done) | (simp only [wnA]; omega) | omega | fail) [Mem.cell, Mem.row, wmA]; rfl) (by simp) (by simp [wkA, retV, stabOk, dC, ev, fillD, pickCells, putAt, bnd, slD, List.getElem?_cons_zero, List.getElem?_cons_succ, dR.eq_20]) (by simp [wkA, retV, stabOk, dC, ev, fillD, pickCells, putAt, bnd, slD, List.getElem?_cons_zero, List.getElem?_cons_succ, dR.eq_20, oneC]) ?_
  simp -implicitDefEqProofs (disch := first | assumption | (simp only [wnA]; done) | (simp only [wnA]; omega) | omega | fail) [wkA, retV, stabOk, dC, ev, fillD, pickCells, putAt, bnd, slD, List.getElem?_cons_zero, List.getElem?_cons_succ, dR.eq_20, Mem.cell, Mem.row, wmA]
  have oM := alst (m := m8) (Z := [.string ⟨#[]⟩, .int .i64 0, .int .i64 0, .int .i64 0]) (V := [.string g8.nm, .int .i64 g8.size, .int .i64 g8.time, .int .i64 g8.mode]) (e := 25)
  generalize (m8.push (.own [.string ⟨#[]⟩, .int .i64 0, .int .i64 0, .int .i64 0] 25)).set m8.next (.own [.string g8.nm, .int .i64 g8.size, .int .i64 g8.time, .int .i64 g8.mode] 25) = m9 at *
  rw [← oM.1.2 _ (by omega)] at gF
  have h29 := h2.keep (m' := m9) fun b hb => by rw [oM.1.2 _ (by have := b2 b hb; have := oo8.1; omega), oo8.2 _ (b2 b hb)]
  have hc6' : (c6 == ((more.length : Int) == 0)) = true := by
    have hi : ((more.length : Int) == 0) = (more.length == 0) := by rw [Bool.eq_iff_iff]; simp
    rw [hc6, hi]; simp
  have hsl := h29.slen
  simp -implicitDefEqProofs (disch := first | assumption | (simp only [wnA]; done) | (simp only [wnA]; omega) | omega | fail) [wkA, retV, stabOk, dC, ev, fillD, pickCells, putAt, bnd, slD, List.getElem?_cons_zero, List.getElem?_cons_succ, dR.eq_20, Mem.cell, Mem.row, wmA, hsl, hc6', gF]
  refine c_May (f := f) hf fun m10 o10 => ?_
  rw [← o10.2 _ (by have := oM.1.1; omega)] at gF
  cases hm : mayB f with
  | true => simp -implicitDefEqProofs (disch := first | assumption | (simp only [wnA]; done) | (simp only [wnA]; omega) | omega | fail) [wkA, retV, stabOk, dC, ev, fillD, pickCells, putAt, bnd, slD, List.getElem?_cons_zero, List.getElem?_cons_succ, dR.eq_20, Mem.cell, Mem.row, wmA]
  | false =>
    have hs : sameB ⟨f.nm, f.size, f.time, f.mode⟩ ⟨⟨#[97]⟩, 0, 0, 0⟩ = false := by
      cases hx : sameB ⟨f.nm, f.size, f.time, f.mode⟩ ⟨⟨#[97]⟩, 0, 0, 0⟩ with
      | false => rfl
      | true =>
        exfalso
        simp only [sameB, Bool.and_eq_true, beq_iff_eq] at hx
        obtain ⟨x1, x2, x3, x4⟩ := hx
        have e : f.nm = ⟨#[97]⟩ := by
          apply ByteArray.ext
          exact Array.toList_inj.1 x1
        have : mayB f = mayB aF := by
          simp only [mayB, aF, e, x2, x3, x4]
          rfl
        rw [hm, may_a] at this
        cases this
    simp -implicitDefEqProofs (disch := first | assumption | (simp only [wnA]; done) | (simp only [wnA]; omega) | omega | fail) [wkA, retV, stabOk, dC, ev, fillD, pickCells, putAt, bnd, slD, List.getElem?_cons_zero, List.getElem?_cons_succ, dR.eq_20, Mem.cell, Mem.row, wmA, gF, dEq_file, hs]
end Go.Proofs.YtkpjbpfemkkheaaDoor.Ab
