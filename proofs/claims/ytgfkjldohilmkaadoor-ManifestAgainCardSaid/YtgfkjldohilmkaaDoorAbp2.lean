/- A text's number: strconv.ParseUint, and its errors by the library's shelf (over Ab21). -/
import Derived.Test.YtgfkjldohilmkaaDoorAbz
import Derived.Test.YtgfkjldohilmkaaDoorAbp1
set_option linter.unusedVariables false
set_option linter.unusedSimpArgs false
namespace Go.Proofs.YtgfkjldohilmkaaDoor.Ab
open Go Go.RowKit
set_option maxHeartbeats 4000000
set_option maxRecDepth 100000

theorem c_iPU {w0 : World} {m : Mem} {B M bits : Nat} {s : ByteArray} {Q : Value → Mem → Prop} (hB : B = 8 ∨ B = 10 ∨ B = 16) (hM : (bits = 32 ∧ M = 4294967295) ∨ (bits = 64 ∧ M = 18446744073709551615)) (hs : s.size ≤ 140737488355328)
    (he : ∀ m' v c, Old m m' → (c = 1 ∨ c = 2) → (s.size = 0 → c = 2) → (c = 1 → v = (M : Int)) → (s.size = 0 ∨ puL B M 0 s.data.toList = none) → Q (.tuple ⟨[.int .u64 v, .iface 147 (.int .i64 c)]⟩) m')
    (hq : ∀ m' v, Old m m' → s.size ≠ 0 → puL B M 0 s.data.toList = some v → Q (.tuple ⟨[.int .u64 ((v : Nat) : Int), .nilIface]⟩) m') :
    AbC Tryd.prog w0 73 [.string s, .int .i64 (B : Int), .int .i64 (bits : Int)] m Q := by
  refine AbC_fn ok73 (by simp) ?_
  simp -implicitDefEqProofs (disch := first | assumption | (simp only [wnA]; done) | (simp only [wnA]; omega) | omega | fail) [rc73, ro73, wkA, retV, stabOk, dC, ev, fillD, pickCells, putAt, bnd, slD, List.getElem?_cons_zero, List.getElem?_cons_succ, dR_sl, Mem.cell, Mem.row, wmA]
  by_cases h0 : s.size = 0
  · have hem : s.data.isEmpty = true := Array.isEmpty_iff_size_eq_zero.2 h0
    simp -implicitDefEqProofs (disch := first | assumption | (simp only [wnA]; done) | (simp only [wnA]; omega) | omega | fail) [wkA, retV, stabOk, dC, ev, fillD, pickCells, putAt, bnd, slD, List.getElem?_cons_zero, List.getElem?_cons_succ, dR_sl, Mem.cell, Mem.row, wmA, hem]
    exact he _ 0 2 (Old.refl m) (.inr rfl) (fun _ => rfl) (fun h => absurd h (by decide)) (.inl h0)
  · have hem : s.data.isEmpty = false := by
      cases hx : s.data.isEmpty with
      | false => rfl
      | true => exact (h0 (Array.isEmpty_iff_size_eq_zero.1 hx)).elim
    have f1 : (2 : Int) ≤ (B : Int) ∧ (B : Int) ≤ 36 := by omega
    have f2 : (B : Int) ≠ 0 := by omega
    have f3 : (bits : Int) ≠ 0 := by omega
    have f4 : ¬ (bits : Int) < 0 := by omega
    have f5 : ¬ (64 : Int) < (bits : Int) := by omega
    have he' : ∀ (ts' : Fr) (m' : Mem) (v c : Int), Old m m' → ts' 6 = .int .u64 v → ts' 7 = .iface 147 (.int .i64 c) → (c = 1 ∨ c = 2) → (c = 1 → v = (M : Int)) → puL B M 0 s.data.toList = none → bodyA ro73 Q .ret ts' m' := fun ts' m' v c o e6 e7 hc hvM hn => by
      simp -implicitDefEqProofs (disch := first | assumption | (simp only [wnA]; done) | (simp only [wnA]; omega) | omega | fail) [ro73, wkA, retV, stabOk, dC, ev, fillD, pickCells, putAt, bnd, slD, List.getElem?_cons_zero, List.getElem?_cons_succ, dR_sl, Mem.cell, Mem.row, wmA, e6, e7]
      exact he m' v c o hc (fun h => absurd h h0) hvM (.inr hn)
    have hq' : ∀ (ts' : Fr) (m' : Mem) (v : Nat), Old m m' → ts' 6 = .int .u64 ((v : Nat) : Int) → ts' 7 = .nilIface → puL B M 0 s.data.toList = some v → bodyA ro73 Q .ret ts' m' := fun ts' m' v o e6 e7 hv => by
      simp -implicitDefEqProofs (disch := first | assumption | (simp only [wnA]; done) | (simp only [wnA]; omega) | omega | fail) [ro73, wkA, retV, stabOk, dC, ev, fillD, pickCells, putAt, bnd, slD, List.getElem?_cons_zero, List.getElem?_cons_succ, dR_sl, Mem.cell, Mem.row, wmA, e6, e7]
      exact hq m' v o h0 hv
    simp only [ro73] at he' hq'
    rcases hB with rfl | rfl | rfl
    · have w2 : dBin .quo (.int .u64 18446744073709551615) (.int .u64 8) = some (.int .u64 2305843009213693951) := rfl
      have w3 : IntKind.u64.wrap 2305843009213693952 = 2305843009213693952 := rfl
      have w4 : IntKind.u64.wrap 8 = 8 := rfl
      simp -implicitDefEqProofs (disch := first | assumption | (simp only [wnA]; done) | (simp only [wnA]; omega) | omega | fail) [wkA, retV, stabOk, dC, ev, fillD, pickCells, putAt, bnd, slD, List.getElem?_cons_zero, List.getElem?_cons_succ, dR_sl, Mem.cell, Mem.row, wmA, hem, rc73_10, rc73_9, rc73_8, beqF f3, f4, f5, w2, w3, w4]
      exact w_PUloop (B := 8) (C := 2305843009213693952) (by omega) (.inl rfl) hM hs (by simp [frA_at]) (by simp [frA_at]) (by simp [frA_at]) (by simp) (by simp) he' hq'
    · simp -implicitDefEqProofs (disch := first | assumption | (simp only [wnA]; done) | (simp only [wnA]; omega) | omega | fail) [wkA, retV, stabOk, dC, ev, fillD, pickCells, putAt, bnd, slD, List.getElem?_cons_zero, List.getElem?_cons_succ, dR_sl, Mem.cell, Mem.row, wmA, hem, rc73_10, rc73_9, rc73_8, beqF f3, f4, f5]
      exact w_PUloop (B := 10) (C := 1844674407370955162) (by omega) (.inr (.inl rfl)) hM hs (by simp [frA_at]) (by simp [frA_at]) (by simp [frA_at]) (by simp) (by simp) he' hq'
    · simp -implicitDefEqProofs (disch := first | assumption | (simp only [wnA]; done) | (simp only [wnA]; omega) | omega | fail) [wkA, retV, stabOk, dC, ev, fillD, pickCells, putAt, bnd, slD, List.getElem?_cons_zero, List.getElem?_cons_succ, dR_sl, Mem.cell, Mem.row, wmA, hem, rc73_10, rc73_9, rc73_8, beqF f3, f4, f5]
      exact w_PUloop (B := 16) (C := 1152921504606846976) (by omega) (.inr (.inr rfl)) hM hs (by simp [frA_at]) (by simp [frA_at]) (by simp [frA_at]) (by simp) (by simp) he' hq'

/-! Errors of the library: a new block that nothing is told of. -/
theorem St.dead {P : Program} {w0 w : World} {G : Loc} {m : Mem} (h : St P w0 G m w) (x : Nat × Nat × Nat) : Loc.le G (fun i => if i = m.next then some x else G i) ∧ St P w0 (fun i => if i = m.next then some x else G i) (m.push .dead) w := by
  have hle : Loc.le G (fun i => if i = m.next then some x else G i) := by
    intro i y hy
    have := h.dom i y hy
    show (if i = m.next then some x else G i) = some y
    rw [if_neg (by omega)]; exact hy
  refine ⟨hle, h.below, ?_, ?_, ?_, ?_, ?_, ?_⟩
  · intro i y hy
    by_cases hi : i = m.next
    · subst hi; simp
    · simp only [hi, if_false] at hy
      have := h.dom i y hy
      simp; omega
  · intro i B b S hd hx
    by_cases hi : i = m.next
    · subst hi; simp at hd
    · simp only [hi, if_false] at hx
      exact h.lim i B b S (by simpa only [Mem.push_get, hi, if_false] using hd) hx
  · intro i hd
    by_cases hi : i = m.next
    · subst hi; simp at hd
    · simp only [Mem.push_get, hi, if_false] at hd ⊢
      obtain ⟨B, b, S, hg, hr⟩ := h.ent i hd
      exact ⟨B, b, S, hg, hr.mono hle⟩
  · intro i j B y z hi hj gi gj
    have key : ∀ k, ((m.push .dead).get k).mine = true → k ≠ m.next ∧ (m.get k).mine = true := by
      intro k hk
      by_cases e : k = m.next
      · subst e; simp [Ent.mine] at hk
      · exact ⟨e, by simpa only [Mem.push_get, e, if_false] using hk⟩
    obtain ⟨e1, k1⟩ := key i hi
    obtain ⟨e2, k2⟩ := key j hj
    simp only [e1, e2, if_false] at gi gj
    exact h.inj i j B y z k1 k2 gi gj
  · intro g hg
    obtain ⟨S, hS⟩ := h.glob g hg
    exact ⟨S, hle _ _ hS⟩
  · intro i cs e B b S hi hx
    by_cases h1 : i = m.next
    · subst h1; simp at hi
    · simp only [Mem.push_get, h1, if_false] at hi hx
      exact h.ali i cs e B b S hi hx
theorem c_callsP {P : Program} {w0 : World} {m : Mem} {f : FuncId} {args : List Value} {T : TypeId} {Q : Value → Mem → Prop} (hcall : callOk P f = true) (ha : args.all (plainV 6) = true)
    (h : ∀ (G : Loc) (w : World), St P w0 G m w → Calls P f args.toArray w fun e w' => ∃ N, e = .returned (.iface T (.pointer (some ⟨N, 0, none⟩))) ∧ Below w.heap.size w w') (hq : Q (.iface T (.pointer (some ⟨m.next, 0, none⟩))) (m.push .dead)) : AbC P w0 f args m Q := by
  intro G w args' hs hargs
  have ha' : ∀ u ∈ args, plainV 6 u = true := by simpa [List.all_eq_true] using ha
  have he : args' = args := VRs.plain_eq hargs fun u hu u' hr => VR.plain_eq 6 u u' (ha' u hu) hr
  subst he
  rw [run_callFunc_enter hcall]
  show Calls _ _ _ _ _
  refine (h G w hs).mono ?_
  rintro e w' ⟨N, rfl, hb⟩
  obtain ⟨h1, h2⟩ := (hs.grown hb).dead (N, 0, 0)
  exact ⟨_, rfl, _, _, _, h1, .iface _ _ _ (.ptr m.next 0 N 0 0 (by simp)), h2, hq⟩

def IfaceAt (w : World) (g : Nat) : Prop := ∃ ev, w.cell? ⟨g, 0, none⟩ = some ev ∧ (ev = .nilIface ∨ ∃ t p, ev = .iface t p)
/-- The library's two errors lie in the world. -/
abbrev ErrV (w : World) : Prop := IfaceAt w 5 ∧ IfaceAt w 6
theorem ifaceAt {P : Program} {w0 w : World} {G : Loc} {m : Mem} {g : Nat} (h : IfaceAt w0 g) (hs : St P w0 G m w) : IfaceAt w g := by
  obtain ⟨ev, h1, h2⟩ := h
  refine ⟨ev, ?_, h2⟩
  have hlt : g < w0.heap.size := by
    rcases Nat.lt_or_ge g w0.heap.size with h' | h'
    · exact h'
    · simp [World.cell?, Array.getElem?_eq_none h'] at h1
  unfold World.cell? at h1 ⊢
  rw [hs.below.block g hlt]; exact h1
theorem c_toError {w0 : World} {m : Mem} {fn s : ByteArray} {base bits c : Int} {Q : Value → Mem → Prop} (hE : ErrV w0) (hc : c = 1 ∨ c = 2) (hs : s.size ≤ 140737488355328) (hq : Q (.iface 149 (.pointer (some ⟨m.next, 0, none⟩))) (m.push .dead)) :
    AbC Tryd.prog w0 74 [.string fn, .string s, .int .i64 base, .int .i64 bits, .iface 147 (.int .i64 c)] m Q := by
  refine c_callsP (T := 149) (by kernel_rfl) (by rcases hc with rfl | rfl <;> rfl) (fun G w hst => ?_) hq
  rcases hc with rfl | rfl
  · obtain ⟨ev, h1, h2⟩ := ifaceAt hE.2 hst
    refine (Tryd.strconv_toError_range fn s base bits ev w (by omega) h1 h2).mono ?_
    rintro e w' ⟨N, rfl, -, -, hb⟩
    exact ⟨N, rfl, hb⟩
  · obtain ⟨ev, h1, h2⟩ := ifaceAt hE.1 hst
    refine (Tryd.strconv_toError_syntax fn s base bits ev w (by omega) h1 h2).mono ?_
    rintro e w' ⟨N, rfl, -, -, hb⟩
    exact ⟨N, rfl, hb⟩
theorem laid_iface {P : Program} {W : World} {l : List (String × DataW Unit)} {name tn : String} {d : DataW Unit} {g t : Nat} {ms : Array _} (h : laidMet P l W) (hm : (name, .iface tn d) ∈ l)
    (hg : P.globalNamed name = some g) (hty : (P.globals[g]?).map (·.type) = some t) (ht : P.underlying t = some (.interface ms)) : IfaceAt W g := by
  obtain ⟨ps, hv, _⟩ := h
  obtain ⟨g', t', cs, fuel, p, h1, h2, h3, h4⟩ := laid_mem hv hm
  obtain rfl := Option.some.inj (hg.symm.trans h1)
  obtain rfl := Option.some.inj (hty.symm.trans h2)
  cases fuel with
  | zero => simp [DataW.trod] at h4
  | succ fuel =>
    have hc := fun v (hv : cs.toList = [v]) => by
      have : W.cell? ⟨g, 0, none⟩ = some v := by
        have := World.var?_cell hg h3 0
        rw [this]
        have e : cs[0]? = cs.toList[0]? := by simp
        rw [e, hv]; rfl
      exact this
    simp only [DataW.trod, ht] at h4
    split at h4 <;> first
      | (cases ‹some (TypeDesc.interface ms) = some _›; done)
      | (cases ‹some (TypeDesc.interface ms) = some _›; first
          | (simp at h4; done)
          | exact ⟨_, hc _ ‹cs.toList = _›, .inr ⟨_, _, rfl⟩⟩)
      | (simp at h4; done)
theorem errV_of {W : World} {l : List (String × DataW Unit)} {d1 d2 : DataW Unit} (h : laidMet Tryd.prog l W) (h1 : ("strconv.ErrSyntax", .iface "*errors.errorString" d1) ∈ l) (h2 : ("strconv.ErrRange", .iface "*errors.errorString" d2) ∈ l) : ErrV W :=
  ⟨laid_iface (g := 5) (t := 28) h h1 (by kernel_rfl) (by kernel_rfl) Tryd.underlying28, laid_iface (g := 6) (t := 28) h h2 (by kernel_rfl) (by kernel_rfl) Tryd.underlying28⟩

theorem c_ParseUint {w0 : World} {m : Mem} {B M bits : Nat} {s : ByteArray} {Q : Value → Mem → Prop} (hE : ErrV w0) (hB : B = 8 ∨ B = 10 ∨ B = 16) (hM : (bits = 32 ∧ M = 4294967295) ∨ (bits = 64 ∧ M = 18446744073709551615)) (hs : s.size ≤ 140737488355328)
    (he : ∀ m' v p, Old m m' → (s.size = 0 ∨ puL B M 0 s.data.toList = none) → Q (.tuple ⟨[.int .u64 v, .iface 149 p]⟩) m')
    (hq : ∀ m' v, Old m m' → s.size ≠ 0 → puL B M 0 s.data.toList = some v → Q (.tuple ⟨[.int .u64 ((v : Nat) : Int), .nilIface]⟩) m') :
    AbC Tryd.prog w0 68 [.string s, .int .i64 (B : Int), .int .i64 (bits : Int)] m Q := by
  refine AbC_fn ok68 (by simp) ?_
  simp -implicitDefEqProofs (disch := first | assumption | (simp only [wnA]; done) | (simp only [wnA]; omega) | omega | fail) [rc68, ro68, wkA, retV, stabOk, dC, ev, fillD, pickCells, putAt, bnd, slD, List.getElem?_cons_zero, List.getElem?_cons_succ, dR_sl, Mem.cell, Mem.row, wmA]
  refine c_iPU hB hM hs (fun m1 v c o1 hc _ _ hn => ?_) fun m1 v o1 h0 hv => ?_
  · simp -implicitDefEqProofs (disch := first | assumption | (simp only [wnA]; done) | (simp only [wnA]; omega) | omega | fail) [wkA, retV, stabOk, dC, ev, fillD, pickCells, putAt, bnd, slD, List.getElem?_cons_zero, List.getElem?_cons_succ, dR_sl, Mem.cell, Mem.row, wmA]
    refine c_toError hE hc hs ?_
    simp -implicitDefEqProofs (disch := first | assumption | (simp only [wnA]; done) | (simp only [wnA]; omega) | omega | fail) [wkA, retV, stabOk, dC, ev, fillD, pickCells, putAt, bnd, slD, List.getElem?_cons_zero, List.getElem?_cons_succ, dR_sl, Mem.cell, Mem.row, wmA]
    exact he _ v _ (o1.push _) hn
  · simp -implicitDefEqProofs (disch := first | assumption | (simp only [wnA]; done) | (simp only [wnA]; omega) | omega | fail) [wkA, retV, stabOk, dC, ev, fillD, pickCells, putAt, bnd, slD, List.getElem?_cons_zero, List.getElem?_cons_succ, dR_sl, Mem.cell, Mem.row, wmA, rc68_0]
    exact hq m1 v o1 h0 hv
end Go.Proofs.YtgfkjldohilmkaaDoor.Ab
