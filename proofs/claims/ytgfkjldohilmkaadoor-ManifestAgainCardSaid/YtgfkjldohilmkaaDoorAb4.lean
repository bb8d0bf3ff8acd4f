/- Comparisons, and the table from the model's operations to the abstract ones: those that look and reckon. -/
import Derived.Test.YtgfkjldohilmkaaDoorAb3
import Derived.Laws.StructEq
set_option linter.unusedVariables false
set_option linter.unusedSimpArgs false
namespace Go.Proofs.YtgfkjldohilmkaaDoor.Ab
open Go Go.RowKit

mutual
def eqOk (P : Program) : Nat → EqT → TypeId → Bool
  | 0, _, _ => false
  | d + 1, e, t => match e, P.underlying t with
    | .bool, some .bool => true
    | .int, some (.int _) => true
    | .str, some .string => true
    | .ptr, some (.pointer te) => (P.info? te).isSome
    | .slice, some (.slice _) => true
    | .map, some (.map _ _) => true
    | .func, some (.func _ _ _) => true
    | .iface ts, some (.interface _) => decide (0 < d) && ts.all fun u => (match P.info? u with | some i => i.comparable | none => false) && (match P.underlying u with | some (.int _) => true | _ => false)
    | .recd ps, some (.struct fs) => !P.stoodInHeld t && partsOk P d ps fs.toList
    | _, _ => false
def partsOk (P : Program) : Nat → List (Nat × Nat × EqT) → List Field → Bool
  | _, [], [] => true
  | 0, _, _ => false
  | d + 1, (off, n, e) :: ps, f :: fs => f.name != "_" && off == f.offset && aggN P f.type == some n && eqOk P d e f.type && partsOk P d ps fs
  | _, _, _ => false
end

section
variable {P : Program} {w0 w : World} {G : Loc} {m : Mem}

set_option maxHeartbeats 4000000 in
theorem snd_eq : ∀ (D : Nat),
    (∀ (e : EqT) (t : TypeId) (x y x' y' : Value) (b : Bool) (d : Nat), eqOk P D e t = true → D ≤ d → dEq e x y = some b → VR G x x' → VR G y y' → (Op.equalIn d t x' y').run P w = .ok b w) ∧
    (∀ (ps : List (Nat × Nat × EqT)) (fs : List Field) (xs ys xs' ys' : List Value) (b : Bool) (d : Nat), partsOk P D ps fs = true → D ≤ d → dEqs ps xs ys = some b → VRs G xs xs' → VRs G ys ys' → (Op.eqFields d ⟨xs'⟩ ⟨ys'⟩ fs).run P w = .ok b w) := by
  intro D
  induction D with
  | zero =>
    refine ⟨fun e t x y x' y' b d h => by simp [eqOk] at h, fun ps fs xs ys xs' ys' b d h _ hd _ _ => ?_⟩
    cases ps <;> cases fs <;> simp [partsOk] at h
    simp [dEqs] at hd
    subst hd
    simp [Op.eqFields]
  | succ D ih =>
    refine ⟨?_, ?_⟩
    · intro e t x y x' y' b d h hle hd hx hy
      obtain ⟨d, rfl⟩ : ∃ k, d = k + 1 := ⟨d - 1, by omega⟩
      cases hu : P.underlying t with
      | none => cases e <;> simp [eqOk, hu] at h
      | some u =>
      cases e with
      | bool =>
        cases u <;> simp [eqOk, hu] at h
        unfold dEq at hd
        split at hd <;> first | (simp at hd; done) | skip
        all_goals (try (rename_i he; cases he; done))
        simp at hd; subst hd
        cases hx; cases hy
        exact run_equalIn_bool w d t _ _ hu
      | int =>
        cases u <;> simp [eqOk, hu] at h
        unfold dEq at hd
        split at hd <;> first | (simp at hd; done) | skip
        all_goals (try (rename_i he; cases he; done))
        simp at hd
        obtain ⟨rfl, rfl⟩ := hd
        cases hx; cases hy
        exact run_equalIn_int w d t _ _ _ _ hu
      | str =>
        cases u <;> simp [eqOk, hu] at h
        unfold dEq at hd
        split at hd <;> first | (simp at hd; done) | skip
        all_goals (try (rename_i he; cases he; done))
        simp only [Option.some.injEq] at hd
        subst hd
        cases hx; cases hy
        rw [run_equalIn_string w d t _ _ hu, ByteArray.toList_eq, ByteArray.toList_eq]
      | ptr =>
        cases u <;> simp [eqOk, hu] at h
        unfold dEq at hd
        split at hd <;> first | (simp at hd; done) | skip
        all_goals (try (rename_i he; cases he; done))
        · simp at hd; subst hd
          cases hx; cases hy <;> simp [Op.equalIn, run_underlying hu]
        · simp at hd; subst hd
          cases hx; cases hy; simp [Op.equalIn, run_underlying hu]
        · rename_i te _ a1 b1 _
          obtain ⟨ti, hti⟩ := Option.isSome_iff_exists.1 h
          simp at hd
          obtain ⟨rfl, rfl⟩ := hd
          cases hx with
          | ptr i o B b S hg => cases hy with
            | ptr _ _ B' b' S' hg' =>
              rw [hg] at hg'
              cases hg'
              simp [Op.equalIn, run_underlying hu, sizeOf, typeInfo, hti, run_sameAddr_same]
      | slice =>
        cases u <;> simp [eqOk, hu] at h
        unfold dEq at hd
        split at hd <;> first | (simp at hd; done) | skip
        all_goals (try (rename_i he; cases he; done))
        · simp at hd; subst hd
          cases hx; cases hy <;> simp [Op.equalIn, run_underlying hu]
        · simp at hd; subst hd
          cases hx <;> cases hy <;> simp [Op.equalIn, run_underlying hu]
      | map =>
        cases u <;> simp [eqOk, hu] at h
        unfold dEq at hd
        split at hd <;> first | (simp at hd; done) | skip
        all_goals (try (rename_i he; cases he; done))
        · simp at hd; subst hd
          cases hx; cases hy <;> simp [Op.equalIn, run_underlying hu]
        · simp at hd; subst hd
          cases hx <;> cases hy <;> simp [Op.equalIn, run_underlying hu]
      | func =>
        cases u <;> simp [eqOk, hu] at h
        unfold dEq at hd
        split at hd <;> first | (simp at hd; done) | skip
        all_goals (try (rename_i he; cases he; done))
        all_goals (simp at hd; subst hd; cases hx; cases hy; simp [Op.equalIn, run_underlying hu])
      | iface ts =>
        cases u <;> simp [eqOk, hu] at h
        unfold dEq at hd
        split at hd <;> first | (simp at hd; done) | skip
        all_goals (try (rename_i he; cases he; done))
        · simp at hd; subst hd; cases hx; cases hy; simp [Op.equalIn, run_underlying hu]
        · simp at hd; subst hd; cases hx; cases hy; simp [Op.equalIn, run_underlying hu]
        · simp at hd; subst hd; cases hx; cases hy; simp [Op.equalIn, run_underlying hu]
        · rename_i ts' t1 k1 n1 t2 k2 n2 he
          cases he
          cases hx with
          | iface _ _ _ hx => cases hy with
            | iface _ _ _ hy =>
              cases hx; cases hy
              by_cases ht : t1 = t2
              · subst ht
                simp at hd
                obtain ⟨⟨hc, rfl⟩, rfl⟩ := hd
                have h1 := h.2 _ hc
                obtain ⟨h1, h2⟩ := h1
                cases hi : P.info? t1 with
                | none => simp [hi] at h1
                | some i =>
                  simp [hi] at h1
                  cases hv : P.underlying t1 with
                  | none => simp [hv] at h2
                  | some v =>
                    cases v <;> simp [hv] at h2
                    obtain ⟨d, rfl⟩ : ∃ k, d = k + 1 := ⟨d - 1, by omega⟩
                    simp [Op.equalIn, run_underlying hu, typeInfo, hi, h1, run_underlying hv]
              · simp [ht] at hd
                subst hd
                simp [Op.equalIn, run_underlying hu, ht]
        · rename_i ts' t1 c1 t2 k2 n2 he
          cases he
          by_cases ht : t1 = t2
          · simp [ht] at hd
          · simp [ht] at hd
            subst hd
            cases hx; cases hy
            simp [Op.equalIn, run_underlying hu, ht]
        · rename_i ts' t1 k1 n1 t2 c2 he
          cases he
          by_cases ht : t1 = t2
          · simp [ht] at hd
          · simp [ht] at hd
            subst hd
            cases hx; cases hy
            simp [Op.equalIn, run_underlying hu, ht]
      | recd ps =>
        cases u <;> simp [eqOk, hu] at h
        rename_i fs
        unfold dEq at hd
        split at hd <;> first | (simp at hd; done) | skip
        all_goals (try (rename_i he; cases he; done))
        rename_i ps' xs ys he
        cases he
        cases hx with
        | agg c c' hx => cases hy with
          | agg e e' hy =>
            have hf : P.fieldsOf t = fs := by simp [Program.fieldsOf, hu]
            rw [run_equalIn_struct w d t _ _ (by rw [hf]; exact hu) h.1, hf]
            exact ih.2 ps fs.toList _ _ _ _ b d h.2 (by omega) hd hx hy
    · intro ps fs xs ys xs' ys' b d h hle hd hx hy
      cases ps with
      | nil =>
        cases fs with
        | nil => simp [dEqs] at hd; subst hd; simp [Op.eqFields]
        | cons f fs => simp [partsOk] at h
      | cons p ps =>
        obtain ⟨off, n, e⟩ := p
        cases fs with
        | nil => simp [partsOk] at h
        | cons f fs =>
          simp only [partsOk, Bool.and_eq_true, bne_iff_ne, beq_iff_eq] at h
          obtain ⟨⟨⟨⟨hn, ho⟩, ha⟩, he⟩, hr⟩ := h
          simp only [dEqs] at hd
          cases hpx : pickCells xs off n with
          | none => simp [hpx] at hd
          | some x =>
            cases hpy : pickCells ys off n with
            | none => simp [hpx, hpy] at hd
            | some y =>
              simp only [hpx, hpy] at hd
              obtain ⟨x', hx1, hx2⟩ := hx.pick hpx
              obtain ⟨y', hy1, hy2⟩ := hy.pick hpy
              subst ho
              have p1 := snd_part (P := P) (w := w) ha hx1
              have p2 := snd_part (P := P) (w := w) ha hy1
              cases hq : dEq e x y with
              | none => simp [hq] at hd
              | some q =>
                have r1 := ih.1 e f.type x y x' y' q d he (by omega) hq hx2 hy2
                cases q with
                | false =>
                  simp [hq] at hd
                  subst hd
                  simp [Op.eqFields, hn, p1, p2, r1]
                | true =>
                  simp only [hq] at hd
                  have r2 := ih.2 ps fs xs ys xs' ys' b d hr (by omega) hd hx hy
                  simp [Op.eqFields, hn, p1, p2, r1, r2]
end
end Go.Proofs.YtgfkjldohilmkaaDoor.Ab
