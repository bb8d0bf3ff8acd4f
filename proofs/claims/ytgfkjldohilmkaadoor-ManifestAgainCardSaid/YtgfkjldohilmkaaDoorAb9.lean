/- The table to the operations that make or write, and that each holds. -/
import Derived.Test.YtgfkjldohilmkaaDoorAb8
set_option linter.unusedVariables false
set_option linter.unusedSimpArgs false
namespace Go.Proofs.YtgfkjldohilmkaaDoor.Ab
open Go Go.RowKit

def resE1 (P : Program) (N : Nat) (o : Oper) : Option EO :=
  if o.op.operands.all (okX P N) then
    match o.op with
    | .alloc t => match P.info? t with
      | some i => match i.zero with
        | some z => if plainV 6 z then some (.al (cellsV z) t) else none
        | none => none
      | none => none
    | .box t x => some (.bx t x)
    | .buildSlice t len parts => match P.underlying t with
      | some (.slice e) => match P.info? e with
        | some i => match i.zero with
          | some z => if len * i.size ≤ 16777216 ∧ 0 < len * i.size ∧ (madeCells z.cells (len * i.size)).toList.all (plainV 6) = true then
              some (.bsl e i.size len (madeCells z.cells (len * i.size)).toList (parts.toList.map fun p => (p.1 * i.size, i.size, p.2))) else none
          | none => none
        | none => none
      | _ => none
    | .store t p x => match P.info? t with
      | some i => some (.st i.size p x)
      | none => none
    | .makeSlice t n c => match P.underlying t with
      | some (.slice e) => match P.info? e with
        | some i => match i.zero with
          | some z => if i.size = 1 ∧ z.cells.size = 1 ∧ flatV z = true then some (.mks e i.bytes z n c) else none
          | none => none
        | none => none
      | _ => none
    | .convert s t x => match P.underlying s, P.underlying t with
      | some .string, some (.slice e) => match P.underlying e with
        | some (.int .u8) => some (.s2b e x)
        | _ => none
      | _, _ => none
    | .call { callee := .builtin .append, args, argTypes } => match args.toList, argTypes.toList with
      | [x, y], [t, t2] => match P.underlying t with
        | some (.slice e) => match P.info? e with
          | some i => match i.zero with
            | some z => if noInt P t2 = true ∧ z.cells.size = i.size then some (.app e i.size i.bytes x y) else none
            | none => none
          | none => none
        | _ => none
      | _, _ => none
    | .call { callee := .builtin .copy, args, argTypes } => match args.toList, argTypes.toList with
      | [x, y], [t, _] => match P.underlying t with
        | some (.slice e) => match P.info? e with
          | some i => some (.cpy i.size x y)
          | none => none
        | _ => none
      | _, _ => none
    | _ => none
  else none

theorem flat_cells {z : Value} (h : flatV z = true) (h1 : z.cells.size = 1) : z.cells = #[z] := by
  unfold flatV at h
  split at h <;> first | rfl | cases h

section
variable {P : Program} {w0 w : World} {G : Loc} {m : Mem}

/-- An operation ends well: with a value, or with none. -/
def OkOp (P : Program) (a : Act) (o : Oper) (w : World) (v' : Value) (w' : World) : Prop :=
  (execOp a.eval o).run P w = .ok (.value v') w' ∨ ((execOp a.eval o).run P w = .ok .skip w' ∧ v' = undef)

set_option maxHeartbeats 2000000 in
theorem resE1_snd {N : Nat} {ts : Fr} {a : Act} {o : Oper} {r : EO} {v : Value} {m' : Mem} (hr : resE1 P N o = some r) (ha : AR G N ts a) (hs : St P w0 G m w) (hd : dE ts m r = some (v, m')) :
    ∃ v' w', OkOp P a o w v' w' ∧ Leaves P w0 w G v m' v' w' := by
  obtain ⟨dst, op, ty, pos, after, guard⟩ := o
  unfold resE1 at hr
  split at hr
  case isFalse => cases hr
  rename_i hok0
  have hok := okX_of hok0
  clear hok0
  have hE : ∀ x, okX P N x = true → VR G (ev ts x) (a.eval x) := fun x hx => ev_VR ha hs x hx
  cases op <;> simp only [Op.operands] at hok hr <;> try (cases hr; done)
  case alloc t =>
    split at hr
    · rename_i i hi
      split at hr
      · rename_i z hz
        split at hr
        · rename_i hp
          simp at hr; subst hr
          simp [dE] at hd
          obtain ⟨rfl, rfl⟩ := hd
          obtain ⟨v', w', h1, h2⟩ := snd_al hs hi hz hp
          exact ⟨v', w', .inl (by simp [execOp, h1]), h2⟩
        · cases hr
      · cases hr
    · cases hr
  case box t x =>
    simp at hr; subst hr
    simp [dE] at hd
    obtain ⟨rfl, rfl⟩ := hd
    obtain ⟨v', w', h1, h2⟩ := snd_bx hs (t := t) (hE x (hok x (by simp)))
    exact ⟨v', w', .inl (by simp [execOp, h1]), h2⟩
  case buildSlice t len parts =>
    have hokp : (parts.toList.all fun p => okX P N p.2) = true := by
      rw [List.all_eq_true]
      intro p hp
      exact hok p.2 (by simp; exact ⟨p.1, by simpa using hp⟩)
    split at hr
    · rename_i e hu
      split at hr
      · rename_i i hi
        split at hr
        · rename_i z hz
          split at hr
          · rename_i hc
            simp only [Option.some.injEq] at hr; subst hr
            obtain ⟨v', w', h1, h2⟩ := snd_bsl hs ha hu hi hz hc.1 hc.2.2 hc.2.1 hokp hd
            exact ⟨v', w', .inl (by simp only [execOp]; rw [Sem.run_bind, h1]; rfl), h2⟩
          · cases hr
        · cases hr
      · cases hr
    · cases hr
  case store t p x =>
    split at hr
    · rename_i i hi
      simp at hr; subst hr
      have vp := hE p (hok p (by simp))
      have vx := hE x (hok x (by simp))
      simp only [dE] at hd
      split at hd
      · rename_i j o hp
        rw [hp] at vp
        split at hd
        · rename_i cs e hown
          split at hd
          · rename_i hc
            simp at hd
            obtain ⟨rfl, rfl⟩ := hd
            obtain ⟨w', h1, h2⟩ := snd_st hs hi rfl vp vx hown hc.1 hc.2.1 hc.2.2
            exact ⟨undef, w', .inr ⟨by simp [execOp, h1], rfl⟩, G, Loc.le_refl G, VR.undef G, h2⟩
          · cases hd
        · cases hd
      · cases hd
    · cases hr
  case makeSlice t n c =>
    split at hr
    · rename_i e hu
      split at hr
      · rename_i i hi
        split at hr
        · rename_i z hz
          split at hr
          · rename_i hc
            simp at hr; subst hr
            have hzc := flat_cells hc.2.2 hc.2.1
            have hp : plainV 6 z = true := by
              have hf := hc.2.2
              cases z <;> simp [flatV] at hf <;> first | rfl | (simp [plainV, flatV]; done) | (simp [plainV, flatV]; exact hf)
            obtain ⟨v', w', h1, h2⟩ := snd_mks hs ha hu hi hz hc.1 hzc hp (hok n (by simp)) (hok c (by simp)) hd
            exact ⟨v', w', .inl (by simp [execOp, h1]), h2⟩
          · cases hr
        · cases hr
      · cases hr
    · cases hr
  case convert s t x =>
    split at hr
    · rename_i e hus hut
      split at hr
      · rename_i hue
        simp at hr; subst hr
        obtain ⟨v', w', h1, h2⟩ := snd_s2b hs ha hus hut hue (hok x (by simp)) hd
        exact ⟨v', w', .inl (by simp [execOp, h1]), h2⟩
      · cases hr
    · cases hr
  case call c =>
    obtain ⟨cal, args, argT⟩ := c
    cases cal with
    | value f => simp at hr
    | invoke r mm => simp at hr
    | builtin b =>
      simp only [Call.operands] at hok
      cases b <;> simp only [] at hr <;> first | (cases hr; done) | skip
      case append =>
        split at hr
        · rename_i x y t t2 hargs hts
          obtain rfl : args = #[x, y] := by apply Array.ext'; simpa using hargs
          obtain rfl : argT = #[t, t2] := by apply Array.ext'; simpa using hts
          split at hr
          · rename_i e hu
            split at hr
            · rename_i i hi
              split at hr
              · rename_i z hz
                split at hr
                · rename_i hc
                  simp at hr; subst hr
                  obtain ⟨v', w', h1, h2⟩ := snd_app (ty := ty) ha hs hu hc.1 hi hz hc.2 (hok x (by simp)) (hok y (by simp)) hd
                  exact ⟨v', w', .inl (by simp [execOp, resolve, invoke, builtin, h1]), h2⟩
                · cases hr
              · cases hr
            · cases hr
          · cases hr
        · cases hr
      case copy =>
        split at hr
        · rename_i x y t t2 hargs hts
          obtain rfl : args = #[x, y] := by apply Array.ext'; simpa using hargs
          obtain rfl : argT = #[t, t2] := by apply Array.ext'; simpa using hts
          split at hr
          · rename_i e hu
            split at hr
            · rename_i i hi
              simp at hr; subst hr
              obtain ⟨v', w', h1, h2⟩ := snd_cpy (t2 := t2) (ty := ty) ha hs hu hi (hok x (by simp)) (hok y (by simp)) hd
              exact ⟨v', w', .inl (by simp [execOp, resolve, invoke, builtin, h1]), h2⟩
            · cases hr
          · cases hr
        · cases hr
end
end Go.Proofs.YtgfkjldohilmkaaDoor.Ab
