/- A call that is reckoned through over a part of the memory; entries of the library that have no text. -/
import Derived.Test.YtgfkjldohilmkaaDoorAbe1
import Derived.Laws.Externs
import Derived.Lib.Bytealg
import Derived.Lib.MakeNoZero
set_option linter.unusedVariables false
set_option linter.unusedSimpArgs false
namespace Go.Proofs.YtgfkjldohilmkaaDoor.Ab
open Go Go.RowKit

section
variable {P : Program} {w0 : World}

/-- The world has only grown: all that was told still holds. -/
theorem St.grown {w w' : World} {G : Loc} {m : Mem} (h : St P w0 G m w) (hb : Below w.heap.size w w') : St P w0 G m w' where
  below := h.below.trans (hb.mono h.below.size)
  dom := h.dom
  lim := fun i B b S hd hx => Nat.lt_of_lt_of_le (h.lim i B b S hd hx) hb.size
  ent := fun i hi => let ⟨B, b, S, g, r⟩ := h.ent i hi; ⟨B, b, S, g, r.keep fun _ => hb.block _ (h.lim i B b S hi g)⟩
  inj := h.inj
  glob := h.glob
  ali := h.ali

/-- All ids of a value lie below k. -/
def ltV (k : Nat) : Nat → Value → Bool
  | 0, _ => false
  | d + 1, v => match v with
    | .pointer (some ⟨i, _, none⟩) => Nat.blt i k
    | .iface _ v => ltV k d v
    | .agg ⟨l⟩ => l.all (ltV k d)
    | .tuple ⟨l⟩ => l.all (ltV k d)
    | v => flatV v
def Loc.cut (G : Loc) (k : Nat) : Loc := fun i => if i < k then G i else none
theorem VRs.cutOf {G G' : Loc} : ∀ {l l' : List Value}, VRs G l l' → (∀ v ∈ l, ∀ v', VR G v v' → VR G' v v') → VRs G' l l'
  | _, _, .nil, _ => .nil
  | _, _, .cons v v' l l' h k, hf => .cons _ _ _ _ (hf v (by simp) v' h) (VRs.cutOf k fun u hu => hf u (by simp [hu]))
theorem VR.cut {G : Loc} {k : Nat} : ∀ (d : Nat) (v v' : Value), ltV k d v = true → VR G v v' → VR (G.cut k) v v' := by
  intro d
  induction d with
  | zero => intro v v' h; simp [ltV] at h
  | succ d ih =>
    intro v v' h hv
    unfold ltV at h
    split at h
    · rename_i i o
      cases hv with
      | ptr _ _ B b S hg => exact .ptr _ _ _ _ _ (by unfold Loc.cut; rw [if_pos (blt_true.1 h)]; exact hg)
    · cases hv with
      | iface t v v' hv => exact .iface _ _ _ (ih _ _ h hv)
    · rename_i l
      cases hv with
      | agg c c' hc =>
        rw [List.all_eq_true] at h
        exact .agg _ _ (hc.cutOf fun v hv v' hr => ih v v' (h v hv) hr)
    · rename_i l
      cases hv with
      | tuple c c' hc =>
        rw [List.all_eq_true] at h
        exact .tuple _ _ (hc.cutOf fun v hv v' hr => ih v v' (h v hv) hr)
    · have := VR.flat_eq h hv
      subst this
      exact VR.flat _ h

theorem VRs.plain_eq {G : Loc} : ∀ {l l' : List Value}, VRs G l l' → (∀ v ∈ l, ∀ v', VR G v v' → v' = v) → l' = l
  | _, _, .nil, _ => rfl
  | _, _, .cons v v' l l' h k, hf => by rw [hf v (by simp) v' h, VRs.plain_eq k fun u hu => hf u (by simp [hu])]
theorem VR.plain_eq {G : Loc} : ∀ (d : Nat) (v v' : Value), plainV d v = true → VR G v v' → v' = v := by
  intro d
  induction d with
  | zero => exact fun v v' h hv => VR.flat_eq h hv
  | succ d ih =>
    intro v v' h hv
    unfold plainV at h
    split at h
    · simp only [Bool.and_eq_true, List.all_eq_true] at h
      cases hv with
      | func fn f c f' c' h1 h2 =>
        rw [VRs.plain_eq h1 fun v hv v' hr => ih v v' (h.1 v hv) hr, VRs.plain_eq h2 fun v hv v' hr => ih v v' (h.2 v hv) hr]
    · cases hv with
      | iface t v v' hv => rw [ih _ _ h hv]
    · simp only [List.all_eq_true] at h
      cases hv with
      | agg c c' hc => rw [VRs.plain_eq hc fun v hv v' hr => ih v v' (h v hv) hr]
    · simp only [List.all_eq_true] at h
      cases hv with
      | tuple c c' hc => rw [VRs.plain_eq hc fun v hv v' hr => ih v v' (h v hv) hr]
    · exact VR.flat_eq h hv

/-- What the part of a memory tells, the memory tells. -/
def Part (L : LM) (m : Mem) : Prop := L.n ≤ m.next ∧ ∀ i, L.get i = .dead ∨ ∃ cs, L.get i = .ro cs ∧ (m.get i).cells? = some cs ∧ cs.all (ltV L.n 6) = true
theorem St.part {w : World} {G : Loc} {m : Mem} {L : LM} (h : St P w0 G m w) (hp : Part L m) (hk : P.globals.size ≤ L.n) : St P w (G.cut L.n) (toMem L) w where
  below := Below.refl _ _
  dom := fun i x hx => by
    unfold Loc.cut at hx
    split at hx
    · assumption
    · cases hx
  lim := fun i B b S hd hx => by
    unfold Loc.cut at hx
    split at hx
    · refine h.lim i B b S ?_ hx
      rcases hp.2 i with h1 | ⟨cs, _, h2, _⟩
      · exact (hd h1).elim
      · intro e; rw [e] at h2; cases h2
    · cases hx
  ent := fun i hi => by
    rcases hp.2 i with h1 | ⟨cs, h1, h2, h3⟩
    · exact (hi h1).elim
    · have hlt : i < L.n := by
        rcases Nat.lt_or_ge i L.n with h' | h'
        · exact h'
        · rw [LM.get_ge (by omega)] at h1; cases h1
      have hnd : m.get i ≠ .dead := by intro e; rw [e] at h2; cases h2
      obtain ⟨B, b, S, hg, _⟩ := h.ent i hnd
      refine ⟨B, b, S, by unfold Loc.cut; rw [if_pos hlt]; exact hg, ?_⟩
      show ER w w (G.cut L.n) B b S (L.get i)
      rw [h1]
      refine ⟨h.lim i B b S hnd hg, fun j v hj => ?_⟩
      obtain ⟨v', c1, c2⟩ := h.cell (o := j) hg (by simp only [Mem.cell, h2]; exact hj)
      rw [List.all_eq_true] at h3
      exact ⟨v', c1, VR.cut 6 _ _ (h3 v (List.mem_of_getElem? hj)) c2⟩
  inj := fun i j B x y hi => by
    have : (L.get i).mine = true := hi
    rcases hp.2 i with h1 | ⟨cs, h1, _⟩ <;> rw [h1] at this <;> cases this
  glob := fun g hg => by
    obtain ⟨S, hS⟩ := h.glob g hg
    exact ⟨S, by unfold Loc.cut; rw [if_pos (by omega)]; exact hS⟩
  ali := fun i cs e B b S hi => by
    have : L.get i = .own cs e := hi
    rcases hp.2 i with h1 | ⟨cs, h1, _⟩ <;> rw [h1] at this <;> cases this

theorem AbC_part {f : FuncId} {args : List Value} {m : Mem} {L : LM} {v : Value} {Q : Value → Mem → Prop} (hp : Part L m) (hk : P.globals.size ≤ L.n) (ha : args.all (plainV 6) = true)
    (h : ∀ w : World, AbC P w f args (toMem L) fun u _ => u = v) (hv : plainV 6 v = true) (hQ : Q v m) : AbC P w0 f args m Q := by
  intro G w args' hs hargs
  have ha' : ∀ u ∈ args, plainV 6 u = true := by simpa [List.all_eq_true] using ha
  have he : args' = args := VRs.plain_eq hargs fun u hu u' hr => VR.plain_eq 6 u u' (ha' u hu) hr
  subst he
  have := h w (G.cut L.n) w args' (hs.part hp hk) (VRs.refl_of _ fun u hu => VR.plain 6 u (ha' u hu))
  refine this.mono ?_
  rintro v' w' ⟨G', u, m', h1, h2, h3, rfl⟩
  have := VR.plain_eq 6 _ _ hv h2
  subst this
  exact ⟨G, v', m, Loc.le_refl G, VR.plain 6 _ hv, hs.grown h3.below, hQ⟩

/-- A closed call, reckoned through. -/
theorem AbC_run {T : List TE} {X : CallE} {f : FuncId} {args : List Value} {m : Mem} {L : LM} {v : Value} {Q : Value → Mem → Prop} (n : Nat) (hT : TOk P T) (hX : XOk P X) (hp : Part L m) (hk : P.globals.size ≤ L.n) (ha : args.all (plainV 6) = true)
    (h : outIs v (callE T X P n f args L) = true) (hv : plainV 6 v = true) (hQ : Q v m) : AbC P w0 f args m Q := by
  refine AbC_part hp hk ha (fun w => ?_) hv hQ
  obtain ⟨L', hr⟩ := outIs_ok h
  exact callE_ok hT hX n _ _ _ _ _ hr _ rfl

/-! Entries without a text. -/
inductive XK where
  | same
  | mnz (e : TypeId)
  | idx
noncomputable def xRun : XK → List Value → LM → Option (Value × LM)
  | .same, [x], L => some (x, L)
  | .mnz e, [.int .i64 n], L => if 0 ≤ n ∧ n ≤ 140737488355328 then match L.push (.own [] e) with
    | some L' => some (.slice (some ⟨L.n, 0, none⟩) n.toNat 1, L')
    | none => none else none
  | .idx, [.string ⟨⟨s⟩⟩, .int .u8 c], L => some (.int .i64 (Lib.indexByte s c.toNat.toUInt8), L)
  | _, _, _ => none
/-- The function has no text, and is the entry. -/
def xIs (P : Program) (f : FuncId) (k : XK) : Prop := ∃ fn e, P.funcs[f]? = some fn ∧ (fn.name == "runtime.NumGoroutine") = false ∧ fn.body.isNone = true ∧ Extern.findNext fn = none ∧ Extern.find fn = some e ∧ match k with
  | .same => e = Extern.AbiNoEscape.same
  | .mnz u => ∃ ps t, e = Extern.BytealgMakeNoZero.makeNoZero ps #[t] ∧ P.underlying t = some (.slice u)
  | .idx => e = Extern.BytealgIndexByte.indexByte

theorem x_same {f : FuncId} (h : xIs P f .same) {x : Value} {m : Mem} {Q : Value → Mem → Prop} (hQ : Q x m) : AbC P w0 f [x] m Q := by
  obtain ⟨fn, e, h1, h2, h3, h4, h5, rfl⟩ := h
  intro G w args' hs hargs
  cases hargs with
  | cons _ x' _ _ hx hn =>
    cases hn
    rw [run_callFunc_extern h1 h2 h3 h4 h5]
    have hr : (Extern.AbiNoEscape.same [x'].toArray).run P w = .ok x' w := Lib.run_noEscape (P := P) w x'
    rw [hr]
    exact ⟨G, x, m, Loc.le_refl G, hx, hs, hQ⟩
theorem x_mnz {f : FuncId} {u : TypeId} (h : xIs P f (.mnz u)) {n : Nat} {m : Mem} {Q : Value → Mem → Prop} (hn : n ≤ 140737488355328) (hQ : Q (.slice (some ⟨m.next, 0, none⟩) n 1) (m.push (.own [] u))) : AbC P w0 f [.int .i64 n] m Q := by
  obtain ⟨fn, e, h1, h2, h3, h4, h5, ps, t, rfl, ht⟩ := h
  intro G w args' hs hargs
  cases hargs with
  | cons _ x' _ _ hx hnl =>
    cases hnl
    cases hx
    rw [run_callFunc_extern h1 h2 h3 h4 h5]
    obtain ⟨cs, hr, hc1, hc2⟩ := Lib.run_makeNoZero (P := P) w ps t u ht n (by omega)
    have hr' : (Extern.BytealgMakeNoZero.makeNoZero ps #[t] [Value.int .i64 (n : Int)].toArray).run P w = _ := hr
    rw [hr']
    have hs2 : St P w0 G m w.drew.drew := hs.same rfl rfl rfl rfl
    have hn2 := own_new hs2 (e := u) (cs := []) (cs' := []) (extra := cs.toList) (0, 0) (open00 _) .nil
    have hm := hc2 (by unfold maxLen; omega)
    refine ⟨_, _, _, hn2.1, ?_, by simpa using hn2.2, hQ⟩
    refine .sl _ _ _ _ (([] ++ cs.toList).length) _ _ _ (by simp) hc1 hm (by simp)
theorem x_idx {f : FuncId} (h : xIs P f .idx) {s : ByteArray} {c : Int} {m : Mem} {Q : Value → Mem → Prop} (hQ : Q (.int .i64 (Lib.indexByte s.data.toList c.toNat.toUInt8)) m) : AbC P w0 f [.string s, .int .u8 c] m Q := by
  obtain ⟨fn, e, h1, h2, h3, h4, h5, rfl⟩ := h
  intro G w args' hs hargs
  cases hargs with
  | cons _ x' _ _ hx hnl => cases hnl with
    | cons _ y' _ _ hy hnl =>
      cases hnl
      cases hx; cases hy
      rw [run_callFunc_extern h1 h2 h3 h4 h5]
      have hr : (Extern.BytealgIndexByte.indexByte [Value.string s, Value.int .u8 c].toArray).run P w = _ := Lib.run_indexByteString s c w
      rw [hr]
      exact ⟨G, _, m, Loc.le_refl G, .int _ _, hs, hQ⟩

def xFind : List (FuncId × XK) → FuncId → Option XK
  | [], _ => none
  | (g, k) :: r, f => match Nat.beq g f with
    | true => some k
    | false => xFind r f
noncomputable def xCall (xs : List (FuncId × XK)) : CallE := fun f args L => match xFind xs f with
  | some k => xRun k args L
  | none => none
theorem xCall_ok {xs : List (FuncId × XK)} (h : ∀ x ∈ xs, xIs P x.1 x.2) : XOk P (xCall xs) := by
  intro w0 f args L v L' hc Q hQ
  unfold xCall at hc
  split at hc
  · rename_i k hk
    have hmem : ∀ (xs : List (FuncId × XK)), xFind xs f = some k → (f, k) ∈ xs := by
      intro xs
      induction xs with
      | nil => intro h; cases h
      | cons x r ih =>
        intro h
        obtain ⟨g, k'⟩ := x
        unfold xFind at h
        split at h
        · rename_i hb
          simp at h; subst h
          rw [Nat.eq_of_beq_eq_true hb]; simp
        · simp [ih h]
    have hx := h _ (hmem xs hk)
    unfold xRun at hc
    split at hc
    · simp at hc; obtain ⟨rfl, rfl⟩ := hc
      exact x_same hx hQ
    · rename_i e n
      split at hc
      case isFalse => cases hc
      rename_i hn
      split at hc
      case h_2 => cases hc
      rename_i L1 h1
      simp at hc; obtain ⟨rfl, rfl⟩ := hc
      obtain ⟨k, rfl⟩ : ∃ k : Nat, n = k := ⟨n.toNat, by omega⟩
      refine x_mnz hx (by omega) ?_
      rw [toMem_push h1] at hQ
      simpa [toMem] using hQ
    · simp at hc; obtain ⟨rfl, rfl⟩ := hc
      exact x_idx hx hQ
    · cases hc
  · cases hc
end
end Go.Proofs.YtgfkjldohilmkaaDoor.Ab
