/- A text's signed number: strconv.ParseInt in the bases 8, 10, 16 (over Abp2). -/
import Derived.Test.YtkpjbpfemkkheaaDoorAbz
import Derived.Test.YtkpjbpfemkkheaaDoorAbp2
set_option linter.unusedVariables false
set_option linter.unusedSimpArgs false
namespace Go.Proofs.YtkpjbpfemkkheaaDoor.Ab
open Go Go.RowKit
set_option maxHeartbeats 4000000
set_option maxRecDepth 100000

theorem dgt_digC : ∀ d : Fin 36, dgt (digC d.val) = some d.val ∧ digC d.val ≠ 43 ∧ digC d.val ≠ 45 := by decide +kernel
theorem puL_snoc {B M : Nat} (c : UInt8) : ∀ (l : List UInt8) (n : Nat), puL B M n (l ++ [c]) = (puL B M n l).bind fun n' => puStep B M n' c
  | [], n => by
    simp only [List.nil_append, puL, Option.bind_some]
    cases puStep B M n c <;> rfl
  | a :: l, n => by
    simp only [List.cons_append, puL]
    cases puStep B M n a with
    | none => rfl
    | some n' => exact puL_snoc c l n'
theorem puL_digs {B M : Nat} (hB : 2 ≤ B ∧ B ≤ 36) : ∀ n, n ≤ M → puL B M 0 (digs B n) = some n := by
  intro n
  induction n using Nat.strongRecOn with
  | _ n ih =>
    intro hn
    by_cases h : n < B
    · rw [digs_lt h]
      simp only [puL, puStep, (dgt_digC ⟨n, by omega⟩).1]
      rw [if_pos ⟨h, by omega⟩]
      simp
    · have h1 : n / B < n := Nat.div_lt_self (by omega) (by omega)
      have h2 : n % B < B := Nat.mod_lt _ (by omega)
      have h3 : n / B * B + n % B = n := Nat.div_add_mod' n B
      rw [digs_ge (by omega) (by omega), puL_snoc, ih _ h1 (by omega)]
      simp only [Option.bind_some, puStep, (dgt_digC ⟨n % B, by omega⟩).1]
      rw [if_pos ⟨h2, by omega⟩, h3]
theorem numS_ofNat {B n : Nat} : numS B (n : Int) = digs B n := by
  unfold numS sgn
  have h : decide ((n : Int) < 0) = false := by simp
  rw [h]
  simp
theorem digs_sgn {B : Nat} (hB : 2 ≤ B ∧ B ≤ 36) : ∀ n, ∀ c ∈ digs B n, c ≠ 43 ∧ c ≠ 45 := by
  intro n
  induction n using Nat.strongRecOn with
  | _ n ih =>
    intro c hc
    by_cases h : n < B
    · rw [digs_lt h] at hc
      simp at hc; subst hc
      exact (dgt_digC ⟨n, by omega⟩).2
    · have h1 : n / B < n := Nat.div_lt_self (by omega) (by omega)
      have h2 : n % B < B := Nat.mod_lt _ (by omega)
      rw [digs_ge (by omega) (by omega), List.mem_append] at hc
      rcases hc with hc | hc
      · exact ih _ h1 c hc
      · simp at hc; subst hc
        exact (dgt_digC ⟨n % B, by omega⟩).2

theorem digs_none {B : Nat} (hB : B = 8 ∨ B = 10 ∨ B = 16) {s : ByteArray} (h : s.size = 0 ∨ puL B 18446744073709551615 0 s.data.toList = none) {k : Nat} (hk : k < 9223372036854775808) : s.data.toList ≠ digs B k := by
  intro e
  rcases h with h | h
  · have := digs_pos B k
    rw [← e] at this
    simp at this
    omega
  · rw [e, puL_digs (by omega) k (by omega)] at h
    cases h
theorem digs_some {B : Nat} (hB : B = 8 ∨ B = 10 ∨ B = 16) {s : ByteArray} {v : Nat} (h : puL B 18446744073709551615 0 s.data.toList = some v) {k : Nat} (hk : k < 9223372036854775808) (e : s.data.toList = digs B k) : v = k := by
  rw [e, puL_digs (by omega) k (by omega)] at h
  exact (Option.some.inj h).symm

theorem dEq_ii {l : List TypeId} {t : TypeId} {k : IntKind} {a b : Int} : dEq (.iface l) (.iface t (.int k a)) (.iface t (.int k b)) = if l.contains t = true then some (a == b) else none := by
  simp [dEq]

theorem w_PItail {w0 : World} {Q : AQ} {ts : Fr} {m : Mem} {B : Nat} {neg : Bool} {s : ByteArray} (hB : B = 8 ∨ B = 10 ∨ B = 16) (hs : s.size ≤ 140737488355328)
    (t0 : ts 0 = .string s) (t1 : ts 1 = .int .i64 (B : Int)) (t2 : ts 2 = .int .i64 64) (t8 : ts 8 = .bool neg)
    (he : ∀ ts' m' n c, Old m m' → ts' 6 = .int .i64 n → ts' 7 = .iface 101 (.int .i64 c) → (c = 1 ∨ c = 2) → (neg = false → ∀ k, k < 9223372036854775808 → s.data.toList ≠ digs B k) → Q .ret ts' m')
    (hq : ∀ ts' m' n, Old m m' → ts' 6 = .int .i64 n → ts' 7 = .nilIface → (neg = false → ∀ k, k < 9223372036854775808 → s.data.toList = digs B k → n = (k : Int)) → Q .ret ts' m') :
    AbW Tryd.prog w0 rc53_5 Q ts m := by
  have w1 : IntKind.i64.wrap 63 = 63 := rfl
  have w2 : IntKind.u64.wrap 63 = 63 := rfl
  have w3 : dBin .shl (.int .u64 1) (.int .u64 63) = some (.int .u64 9223372036854775808) := rfl
  have w4 : IntKind.u64.wrap 9223372036854775807 = 9223372036854775807 := rfl
  have w5 : IntKind.i64.wrap 9223372036854775807 = 9223372036854775807 := rfl
  simp -implicitDefEqProofs (disch := first | assumption | (simp only [wnA]; done) | (simp only [wnA]; omega) | omega | fail) [rc53_5, wkA, retV, stabOk, dC, ev, fillD, pickCells, putAt, bnd, slD, List.getElem?_cons_zero, List.getElem?_cons_succ, dR.eq_20, Mem.cell, Mem.row, wmA, t0, t1, t2]
  refine c_iPU (bits := 64) hB (.inr ⟨rfl, rfl⟩) hs (fun m1 v c o1 hc h0 hv hn => ?_) fun m1 v o1 h0 hv => ?_
  · have hno : neg = false → ∀ k, k < 9223372036854775808 → s.data.toList ≠ digs B k := fun _ k hk => digs_none hB hn hk
    rcases hc with rfl | rfl
    · have hv := hv rfl
      subst hv
      simp -implicitDefEqProofs (disch := first | assumption | (simp only [wnA]; done) | (simp only [wnA]; omega) | omega | fail) [wkA, retV, stabOk, dC, ev, fillD, pickCells, putAt, bnd, slD, List.getElem?_cons_zero, List.getElem?_cons_succ, dR.eq_20, Mem.cell, Mem.row, wmA, dEq_ii, rc53_4, rc53_3, rc53_2, t2, t8, w1, w2, w3]
      cases neg with
      | false =>
        simp -implicitDefEqProofs (disch := first | assumption | (simp only [wnA]; done) | (simp only [wnA]; omega) | omega | fail) [wkA, retV, stabOk, dC, ev, fillD, pickCells, putAt, bnd, slD, List.getElem?_cons_zero, List.getElem?_cons_succ, dR.eq_20, Mem.cell, Mem.row, wmA, t8, w4, w5]
        exact he _ m1 _ 1 o1 (by rfl) (by rfl) (.inl rfl) hno
      | true =>
        simp -implicitDefEqProofs (disch := first | assumption | (simp only [wnA]; done) | (simp only [wnA]; omega) | omega | fail) [wkA, retV, stabOk, dC, ev, fillD, pickCells, putAt, bnd, slD, List.getElem?_cons_zero, List.getElem?_cons_succ, dR.eq_20, Mem.cell, Mem.row, wmA, t8, w4, w5]
        exact he _ m1 _ 1 o1 (by rfl) (by rfl) (.inl rfl) hno
    · simp -implicitDefEqProofs (disch := first | assumption | (simp only [wnA]; done) | (simp only [wnA]; omega) | omega | fail) [wkA, retV, stabOk, dC, ev, fillD, pickCells, putAt, bnd, slD, List.getElem?_cons_zero, List.getElem?_cons_succ, dR.eq_20, Mem.cell, Mem.row, wmA, dEq_ii]
      exact he _ m1 0 2 o1 (by simp) (by simp) (.inr rfl) hno
  · simp -implicitDefEqProofs (disch := first | assumption | (simp only [wnA]; done) | (simp only [wnA]; omega) | omega | fail) [wkA, retV, stabOk, dC, ev, fillD, pickCells, putAt, bnd, slD, List.getElem?_cons_zero, List.getElem?_cons_succ, dR.eq_20, Mem.cell, Mem.row, wmA, dEq_ii, rc53_4, rc53_3, rc53_2, t2, t8, w1, w2, w3]
    by_cases h1 : v < 9223372036854775808
    · have h2 : ¬ (9223372036854775808 : Int) ≤ (v : Int) := by omega
      have h3 : ¬ (9223372036854775808 : Int) < (v : Int) := by omega
      have h4 : IntKind.i64.wrap (v : Int) = (v : Int) := w64 (by omega)
      have hk : ∀ k, k < 9223372036854775808 → s.data.toList = digs B k → (v : Int) = (k : Int) := fun k hk e => by rw [digs_some hB hv hk e]
      cases neg with
      | false =>
        simp -implicitDefEqProofs (disch := first | assumption | (simp only [wnA]; done) | (simp only [wnA]; omega) | omega | fail) [wkA, retV, stabOk, dC, ev, fillD, pickCells, putAt, bnd, slD, List.getElem?_cons_zero, List.getElem?_cons_succ, dR.eq_20, Mem.cell, Mem.row, wmA, t8, h2, h3, h4, rc53_1, rc53_0]
        exact hq _ m1 v o1 (by simp) (by simp) fun _ => hk
      | true =>
        simp -implicitDefEqProofs (disch := first | assumption | (simp only [wnA]; done) | (simp only [wnA]; omega) | omega | fail) [wkA, retV, stabOk, dC, ev, fillD, pickCells, putAt, bnd, slD, List.getElem?_cons_zero, List.getElem?_cons_succ, dR.eq_20, Mem.cell, Mem.row, wmA, t8, h2, h3, h4, rc53_1, rc53_0]
        exact hq _ m1 _ o1 (by rfl) (by rfl) fun h => by cases h
    · have h2 : (9223372036854775808 : Int) ≤ (v : Int) := by omega
      have hno : neg = false → ∀ k, k < 9223372036854775808 → s.data.toList ≠ digs B k := fun _ k hk e => by
        have := digs_some hB hv hk e
        omega
      cases neg with
      | false =>
        simp -implicitDefEqProofs (disch := first | assumption | (simp only [wnA]; done) | (simp only [wnA]; omega) | omega | fail) [wkA, retV, stabOk, dC, ev, fillD, pickCells, putAt, bnd, slD, List.getElem?_cons_zero, List.getElem?_cons_succ, dR.eq_20, Mem.cell, Mem.row, wmA, t8, h2, w4, w5]
        exact he _ m1 _ 1 o1 (by rfl) (by rfl) (.inl rfl) hno
      | true =>
        by_cases h3 : (9223372036854775808 : Int) < (v : Int)
        · simp -implicitDefEqProofs (disch := first | assumption | (simp only [wnA]; done) | (simp only [wnA]; omega) | omega | fail) [wkA, retV, stabOk, dC, ev, fillD, pickCells, putAt, bnd, slD, List.getElem?_cons_zero, List.getElem?_cons_succ, dR.eq_20, Mem.cell, Mem.row, wmA, t8, h2, h3]
          exact he _ m1 _ 1 o1 (by rfl) (by rfl) (.inl rfl) hno
        · simp -implicitDefEqProofs (disch := first | assumption | (simp only [wnA]; done) | (simp only [wnA]; omega) | omega | fail) [wkA, retV, stabOk, dC, ev, fillD, pickCells, putAt, bnd, slD, List.getElem?_cons_zero, List.getElem?_cons_succ, dR.eq_20, Mem.cell, Mem.row, wmA, t8, h2, h3, rc53_1, rc53_0]
          exact hq _ m1 _ o1 (by rfl) (by rfl) fun h => by cases h
theorem c_iPI {w0 : World} {m : Mem} {B : Nat} {s : ByteArray} {Q : Value → Mem → Prop} (hB : B = 8 ∨ B = 10 ∨ B = 16) (hs : s.size ≤ 140737488355328)
    (he : ∀ m' n c, Old m m' → (c = 1 ∨ c = 2) → (∀ k, k < 9223372036854775808 → s.data.toList ≠ digs B k) → Q (.tuple ⟨[.int .i64 n, .iface 101 (.int .i64 c)]⟩) m')
    (hq : ∀ m' n, Old m m' → (∀ k, k < 9223372036854775808 → s.data.toList = digs B k → n = (k : Int)) → Q (.tuple ⟨[.int .i64 n, .nilIface]⟩) m') :
    AbC Tryd.prog w0 53 [.string s, .int .i64 (B : Int), .int .i64 64] m Q := by
  refine AbC_fn ok53 (by simp) ?_
  simp -implicitDefEqProofs (disch := first | assumption | (simp only [wnA]; done) | (simp only [wnA]; omega) | omega | fail) [rc53, ro53, wkA, retV, stabOk, dC, ev, fillD, pickCells, putAt, bnd, slD, List.getElem?_cons_zero, List.getElem?_cons_succ, dR.eq_20, Mem.cell, Mem.row, wmA]
  have rt : ∀ (ts' : Fr) (m' : Mem) (n c : Int), Old m m' → ts' 6 = .int .i64 n → ts' 7 = .iface 101 (.int .i64 c) → (c = 1 ∨ c = 2) → (∀ k, k < 9223372036854775808 → s.data.toList ≠ digs B k) → bodyA ro53 Q .ret ts' m' := fun ts' m' n c o e6 e7 hc hn => by
    simp -implicitDefEqProofs (disch := first | assumption | (simp only [wnA]; done) | (simp only [wnA]; omega) | omega | fail) [ro53, wkA, retV, stabOk, dC, ev, fillD, pickCells, putAt, bnd, slD, List.getElem?_cons_zero, List.getElem?_cons_succ, dR.eq_20, Mem.cell, Mem.row, wmA, e6, e7]
    exact he m' n c o hc hn
  have rq : ∀ (ts' : Fr) (m' : Mem) (n : Int), Old m m' → ts' 6 = .int .i64 n → ts' 7 = .nilIface → (∀ k, k < 9223372036854775808 → s.data.toList = digs B k → n = (k : Int)) → bodyA ro53 Q .ret ts' m' := fun ts' m' n o e6 e7 hn => by
    simp -implicitDefEqProofs (disch := first | assumption | (simp only [wnA]; done) | (simp only [wnA]; omega) | omega | fail) [ro53, wkA, retV, stabOk, dC, ev, fillD, pickCells, putAt, bnd, slD, List.getElem?_cons_zero, List.getElem?_cons_succ, dR.eq_20, Mem.cell, Mem.row, wmA, e6, e7]
    exact hq m' n o hn
  simp only [ro53] at rt rq
  have hsz : s.data.toList.length = s.size := by simp
  rcases hl : s.data.toList with _ | ⟨c, r⟩
  · have h0 : s.size = 0 := by rw [hl] at hsz; simpa using hsz.symm
    have hem : s.data.isEmpty = true := Array.isEmpty_iff_size_eq_zero.2 h0
    simp -implicitDefEqProofs (disch := first | assumption | (simp only [wnA]; done) | (simp only [wnA]; omega) | omega | fail) [wkA, retV, stabOk, dC, ev, fillD, pickCells, putAt, bnd, slD, List.getElem?_cons_zero, List.getElem?_cons_succ, dR.eq_20, Mem.cell, Mem.row, wmA, hem]
    refine he m 0 2 (Old.refl m) (.inr rfl) fun k _ e => ?_
    have := digs_pos B k
    rw [← e, hl] at this
    simp at this
  · have h0 : s.size ≠ 0 := by rw [hl] at hsz; simp at hsz; omega
    have hem : s.data.isEmpty = false := by
      cases hx : s.data.isEmpty with
      | false => rfl
      | true => exact (h0 (Array.isEmpty_iff_size_eq_zero.1 hx)).elim
    have hlt0 : 0 < s.size := by omega
    have hb1 : (1 : Int) ≤ (s.size : Int) := by omega
    have hb2 : 1 ≤ s.size := hlt0
    have t43 : (43 : UInt8).toNat = 43 := rfl
    have t45 : (45 : UInt8).toNat = 45 := rfl
    have hc0 : s[0]'hlt0 = c := by
      have h1 : s[0]'hlt0 = s.data.toList[0]'(by rw [hl]; simp) := by simp; rfl
      rw [h1]
      simp [hl]
    have nosgn : (c = 43 ∨ c = 45) → ∀ k, k < 9223372036854775808 → s.data.toList ≠ digs B k := fun h k _ e => by
      have := digs_sgn (B := B) (by omega) k c (by rw [← e, hl]; simp)
      rcases h with rfl | rfl
      · exact this.1 rfl
      · exact this.2 rfl
    have hx : (s.extract 1 s.size).size ≤ 140737488355328 := by simp; omega
    by_cases h43 : c = 43
    · subst h43
      simp -implicitDefEqProofs (disch := first | assumption | (simp only [wnA]; done) | (simp only [wnA]; omega) | omega | fail) [wkA, retV, stabOk, dC, ev, fillD, pickCells, putAt, bnd, slD, List.getElem?_cons_zero, List.getElem?_cons_succ, dR.eq_20, Mem.cell, Mem.row, wmA, hem, rc53_6, hc0, hb1, hb2, t43, t45]
      refine w_PItail (neg := false) hB hx (by simp) (by simp [frA_at]) (by simp [frA_at]) (by simp) (fun ts' m' n c o e6 e7 hc _ => rt ts' m' n c o e6 e7 hc (nosgn (.inl rfl))) fun ts' m' n o e6 e7 _ => rq ts' m' n o e6 e7 fun k hk e => (nosgn (.inl rfl) k hk e).elim
    · by_cases h45 : c = 45
      · subst h45
        simp -implicitDefEqProofs (disch := first | assumption | (simp only [wnA]; done) | (simp only [wnA]; omega) | omega | fail) [wkA, retV, stabOk, dC, ev, fillD, pickCells, putAt, bnd, slD, List.getElem?_cons_zero, List.getElem?_cons_succ, dR.eq_20, Mem.cell, Mem.row, wmA, hem, rc53_6, hc0, hb1, hb2, t43, t45]
        refine w_PItail (neg := true) hB hx (by simp) (by simp [frA_at]) (by simp [frA_at]) (by simp) (fun ts' m' n c o e6 e7 hc _ => rt ts' m' n c o e6 e7 hc (nosgn (.inr rfl))) fun ts' m' n o e6 e7 _ => rq ts' m' n o e6 e7 fun k hk e => (nosgn (.inr rfl) k hk e).elim
      · have i43 : ¬ (c.toNat : Int) = 43 := fun h => h43 (UInt8.toNat_inj.1 (by show c.toNat = 43; omega))
        have i45 : ¬ (c.toNat : Int) = 45 := fun h => h45 (UInt8.toNat_inj.1 (by show c.toNat = 45; omega))
        simp -implicitDefEqProofs (disch := first | assumption | (simp only [wnA]; done) | (simp only [wnA]; omega) | omega | fail) [wkA, retV, stabOk, dC, ev, fillD, pickCells, putAt, bnd, slD, List.getElem?_cons_zero, List.getElem?_cons_succ, dR.eq_20, Mem.cell, Mem.row, wmA, hem, rc53_6, hc0, beqF i43, beqF i45]
        refine w_PItail (neg := false) hB hs (by simp [frA_at]) (by simp [frA_at]) (by simp [frA_at]) (by simp) (fun ts' m' n c o e6 e7 hc hn => rt ts' m' n c o e6 e7 hc (hn rfl)) fun ts' m' n o e6 e7 hn => rq ts' m' n o e6 e7 (hn rfl)

theorem c_ParseInt {w0 : World} {m : Mem} {B : Nat} {s : ByteArray} {Q : Value → Mem → Prop} (hE : ErrV w0) (hB : B = 8 ∨ B = 10 ∨ B = 16) (hs : s.size ≤ 140737488355328)
    (he : ∀ m' n p, Old m m' → (∀ k, k < 9223372036854775808 → s.data.toList ≠ digs B k) → Q (.tuple ⟨[.int .i64 n, .iface 104 p]⟩) m')
    (hq : ∀ m' n, Old m m' → (∀ k, k < 9223372036854775808 → s.data.toList = digs B k → n = (k : Int)) → Q (.tuple ⟨[.int .i64 n, .nilIface]⟩) m') :
    AbC Tryd.prog w0 39 [.string s, .int .i64 (B : Int), .int .i64 64] m Q := by
  refine AbC_fn ok39 (by simp) ?_
  simp -implicitDefEqProofs (disch := first | assumption | (simp only [wnA]; done) | (simp only [wnA]; omega) | omega | fail) [rc39, ro39, wkA, retV, stabOk, dC, ev, fillD, pickCells, putAt, bnd, slD, List.getElem?_cons_zero, List.getElem?_cons_succ, dR.eq_20, Mem.cell, Mem.row, wmA]
  refine c_iPI hB hs (fun m1 v c o1 hc hn => ?_) fun m1 v o1 hv => ?_
  · simp -implicitDefEqProofs (disch := first | assumption | (simp only [wnA]; done) | (simp only [wnA]; omega) | omega | fail) [wkA, retV, stabOk, dC, ev, fillD, pickCells, putAt, bnd, slD, List.getElem?_cons_zero, List.getElem?_cons_succ, dR.eq_20, Mem.cell, Mem.row, wmA]
    refine c_toError hE hc hs ?_
    simp -implicitDefEqProofs (disch := first | assumption | (simp only [wnA]; done) | (simp only [wnA]; omega) | omega | fail) [wkA, retV, stabOk, dC, ev, fillD, pickCells, putAt, bnd, slD, List.getElem?_cons_zero, List.getElem?_cons_succ, dR.eq_20, Mem.cell, Mem.row, wmA]
    exact he _ v _ (o1.push _) hn
  · simp -implicitDefEqProofs (disch := first | assumption | (simp only [wnA]; done) | (simp only [wnA]; omega) | omega | fail) [wkA, retV, stabOk, dC, ev, fillD, pickCells, putAt, bnd, slD, List.getElem?_cons_zero, List.getElem?_cons_succ, dR.eq_20, Mem.cell, Mem.row, wmA, rc39_0]
    exact hq m1 v o1 hv
end Go.Proofs.YtkpjbpfemkkheaaDoor.Ab
