/- A region that draws its order: one run in a fixed order serves every order. -/
import Derived.Test.YtgfkjldohilmkaaDoorAb12
set_option linter.unusedVariables false
set_option linter.unusedSimpArgs false
namespace Go.Proofs.YtgfkjldohilmkaaDoor.Ab
open Go Go.RowKit

theorem resK_r {P : Program} {N : Nat} {o : Oper} {r : RO} (h : resK P N o = some (.r r)) : resR P N o = some r := by
  unfold resK at h
  split at h
  · split at h <;> simp at h
  · split at h
    · rename_i r' hr
      simp at h; subst h; exact hr
    · split at h
      · simp at h
      · split at h <;> simp at h

theorem ev_upd {ts : Fr} {d : Nat} {v : Value} {x : Operand} (h : isTmp d x = false) : ev (upd ts d v) x = ev ts x := by
  cases x with
  | tmp t => simp [isTmp] at h; simp [ev, upd, h]
  | _ => rfl

theorem wantD_upd {ts : Fr} {d : Nat} {v : Value} {s : Sp} (h : seesD d s = false) : wantD s.g (upd ts d v) = wantD s.g ts := by
  simp only [seesD, Bool.or_eq_false_iff] at h
  have h1 := h.1
  unfold wantD
  cases hg : s.g with
  | none => rfl
  | some p =>
    obtain ⟨t, b⟩ := p
    simp only [hg, beq_eq_false_iff_ne] at h1
    simp only [upd, h1, if_false]

theorem dR_upd {ts : Fr} {d : Nat} {v : Value} {m : Mem} {s : Sp} {o : RO} (hk : s.k = .r o) (h : seesD d s = false) : dR (upd ts d v) m o = dR ts m o := by
  simp only [seesD, Bool.or_eq_false_iff, hk] at h
  refine dR_congr fun x hx => ev_upd ?_
  have := h.2
  rw [List.any_eq_false] at this
  simpa using this x hx

section
variable {P : Program} {w0 : World} {N : Nat} {ops : Array Oper} {sp : Nat → Sp} {sch : List Nat} {anc : Nat → Nat → Bool} {G : Loc} {Q : Fr → Mem → Prop}

/-- A frame in which every slot holds what stands for the abstract one's. -/
theorem full_frame {G' : Loc} {ts : Fr} {a : Act} {cond : Nat → Prop} (h : ∀ t, t < N → ∃ v', VR G' (ts t) v' ∧ (cond t → v' = a.tmps.getD t undef)) (hsz : a.tmps.size = N) :
    ∃ b : Act, AR G' N ts b ∧ ∀ t, (t < N → cond t) → b.tmps[t]? = a.tmps[t]? := by
  classical
  let f : Nat → Value := fun t => if ht : t < N then Classical.choose (h t ht) else undef
  have hf : ∀ t (ht : t < N), VR G' (ts t) (f t) ∧ (cond t → f t = a.tmps.getD t undef) := by
    intro t ht
    have := Classical.choose_spec (h t ht)
    simpa [f, ht] using this
  refine ⟨{ tmps := Array.ofFn (n := N) fun i => f i, defers := [] }, ⟨by simp, fun t ht => ?_, rfl⟩, fun t hc => ?_⟩
  · have := (hf t ht).1
    simpa [Array.getD, ht] using this
  · by_cases ht : t < N
    · have h1 := (hf t ht).2 (hc ht)
      have ht' : t < a.tmps.size := by omega
      rw [Array.getElem?_eq_getElem (by simpa using ht), Array.getElem?_eq_getElem ht']
      simp only [Array.getElem_ofFn]
      rw [h1]
      simp [Array.getD, ht']
    · rw [Array.getElem?_eq_none (by simp; omega), Array.getElem?_eq_none (by omega)]

theorem eval_agree {a b : Act} {x : Operand} (h : ∀ t, x = .tmp t → b.tmps[t]? = a.tmps[t]?) : b.eval x = a.eval x := by
  cases x with
  | tmp t =>
    have := h t rfl
    simp only [Act.eval, Array.getD_eq_getD_getElem?, this]
  | _ => rfl

theorem exec_agree {a b : Act} {o : Oper} (hs : ∀ cs q, o.op ≠ .select cs q) (h : ∀ t ∈ o.looksAt ops, b.tmps[t]? = a.tmps[t]?) : execOp b.eval o = execOp a.eval o :=
  execOp_congr o hs fun x hx => eval_agree fun t ht => h t (by
    subst ht
    exact List.mem_append_left _ (List.mem_filterMap.2 ⟨.tmp t, by simpa using hx, rfl⟩))

theorem wanted_agree {a b : Act} {o : Oper} (h : ∀ t ∈ o.looksAt ops, b.tmps[t]? = a.tmps[t]?) : Region.wanted o (yielded ops b.tmps) = Region.wanted o (yielded ops a.tmps) := by
  unfold Region.wanted
  cases hg : o.guard with
  | none => rfl
  | some p =>
    obtain ⟨j, q⟩ := p
    have : yielded ops b.tmps j = yielded ops a.tmps j := by
      unfold yielded
      cases ht : (ops[j]?).bind (·.dst) with
      | none => rfl
      | some t =>
        have := h t (by simp [Oper.looksAt, hg, ht])
        simp only [Option.bind_some, this]
    simp only [this]

/-- Where a run stands: what has come up really ('l'), and, ahead of it, what has come up over the abstract memory ('pre'). -/
def Inv (P : Program) (w0 : World) (N : Nat) (ops : Array Oper) (anc : Nat → Nat → Bool) (sp : Nat → Sp) (sch : List Nat) (G : Loc) (Q : Fr → Mem → Prop) (l : Array Bool) (a : Act) (w : World) (normal : Bool) : Prop :=
  ∃ G' ts m pre rest, sch = pre ++ rest ∧ Loc.le G G' ∧ St P w0 G' m w ∧ a.tmps.size = N ∧ a.defers = [] ∧
    (∀ t, t < N → ∃ v', VR G' (ts t) v' ∧ ((∀ i ∈ pre, ¬ Lst l i → (sp i).d ≠ some t) → v' = a.tmps.getD t undef)) ∧
    (∀ i, Lst l i → i ∈ pre) ∧ (∀ i ∈ pre, ¬ Lst l i → isCh (sp i) = false ∧ Stable (sp i) ts m) ∧ DownC ops l ∧ l.size = ops.size ∧
    (normal = true → ∀ i r, rest = i :: r → isCh (sp i) = true) ∧ RS P w0 Q (stepsOf anc sp pre rest) ts m

theorem inv_normal (hk : SchOk P N ops anc sp sch) {l : Array Bool} {a : Act} {w : World} (h : Inv P w0 N ops anc sp sch G Q l a w false) : Inv P w0 N ops anc sp sch G Q l a w true := by
  obtain ⟨G', ts, m, pre, rest, hsch, hle, hs, hsz, hdf, hre, hl, hp, hd, hls, -, hrs⟩ := h
  induction rest generalizing ts pre with
  | nil => exact ⟨G', ts, m, pre, [], hsch, hle, hs, hsz, hdf, hre, hl, hp, hd, hls, (fun _ i r e => by cases e), hrs⟩
  | cons i rest ih =>
    cases hch : isCh (sp i) with
    | true => exact ⟨G', ts, m, pre, i :: rest, hsch, hle, hs, hsz, hdf, hre, hl, hp, hd, hls, (fun _ j r e => by cases e; exact hch), hrs⟩
    | false =>
      have himem : i ∈ sch := by rw [hsch]; simp
      have hin : i < ops.size := (hk.mem i).1 himem
      have hnpre : i ∉ pre := by
        have := hk.nodup
        rw [hsch] at this
        intro hm
        exact (List.nodup_append.1 this).2.2 i hm i (by simp) rfl
      have hnl : ¬ Lst l i := fun h => hnpre (hl i h)
      obtain ⟨o, ho⟩ : ∃ o, ops[i]? = some o := ⟨ops[i], by simp [hin]⟩
      obtain ⟨g, k, hg, hkk, hd1, hg1, hk1, hdN⟩ := hk.res i o ho
      obtain ⟨d, hdd⟩ : ∃ d, (sp i).d = some d := Option.ne_none_iff_exists'.1 (hk.reads i hin hch)
      have hod : o.dst = some d := by rw [← hd1]; exact hdd
      have hr : ∃ r, k = .r r := by
        rw [← hk1]
        unfold isCh at hch
        split at hch
        · exact ⟨_, by assumption⟩
        · cases hch
      obtain ⟨r, rfl⟩ := hr
      have hself := hk.self i d hch hdd
      -- what is told in the slot
      have key : ∀ v, (∃ v', VR G' v v') → ((wantD (sp i).g ts = true → dR ts m r = some v) ∧ (wantD (sp i).g ts = false → v = undef)) → RS P w0 Q (stepsOf anc sp (pre ++ [i]) rest) (upd ts d v) m → Inv P w0 N ops anc sp sch G Q l a w true := by
        intro v hv hst hrs'
        refine ih (upd ts d v) (pre ++ [i]) (by rw [hsch]; simp) ?_ (fun j hj => by simp [hl j hj]) ?_ hrs'
        · intro t ht
          by_cases htd : t = d
          · subst htd
            obtain ⟨v', hv'⟩ := hv
            exact ⟨v', by simpa [upd] using hv', fun hc => (hc i (by simp) hnl hdd).elim⟩
          · obtain ⟨v', h1, h2⟩ := hre t ht
            exact ⟨v', by simpa [upd, htd] using h1, fun hc => h2 fun j hj hnj => hc j (by simp [hj]) hnj⟩
        · intro j hj hnj
          rcases List.mem_append.1 hj with hj | hj
          · obtain ⟨h1, h2⟩ := hp j hj hnj
            refine ⟨h1, ?_⟩
            have hji : i ≠ j := by rintro rfl; exact hnpre hj
            have hjn : j < ops.size := (hk.mem j).1 (by rw [hsch]; simp [hj])
            obtain ⟨oj, hoj⟩ : ∃ o, ops[j]? = some o := ⟨ops[j], by simp [hjn]⟩
            obtain ⟨f1, f2, f3⟩ := hk.fresh i j o oj d hch hji ho hoj hod
            have hnanc : ¬ Anc ops i j := by
              intro ha
              obtain ⟨p1, p2, hpp⟩ := List.append_of_mem hj
              have := anc_before hk ha p1 (p2 ++ i :: rest) (by rw [hsch, hpp]; simp)
              exact hnpre (by rw [hpp]; simp [this])
            have hsee : seesD d (sp j) = false := by
              cases hq : seesD d (sp j) with
              | false => rfl
              | true => exact (hnanc (f3 hq)).elim
            have hdj : (sp j).d ≠ some d := by
              obtain ⟨_, _, _, _, e1, _⟩ := hk.res j oj hoj
              rw [e1]; exact f1
            intro dj hdj'
            have := h2 dj hdj'
            have hne : dj ≠ d := by rintro rfl; exact hdj hdj'
            cases hkj : (sp j).k with
            | r oj' =>
              simp only [hkj] at this ⊢
              rw [wantD_upd hsee, dR_upd hkj hsee]
              simpa [upd, hne] using this
            | a x => simp only [hkj] at this
            | e x => simp only [hkj] at this
            | c x => simp only [hkj] at this
            | bad => simp only [hkj] at this
          · simp at hj
            subst hj
            refine ⟨hch, ?_⟩
            intro d' hd'
            rw [hdd] at hd'
            cases hd'
            simp only [hk1]
            rw [wantD_upd hself, dR_upd hk1 hself]
            simpa [upd] using hst
      unfold stepsOf at hrs
      unfold RS at hrs
      simp only [hch, Bool.false_eq_true, if_false] at hrs
      cases hw : wantD (sp i).g ts with
      | true =>
        simp only [hw, if_true, hk1, SK] at hrs
        cases hdr : dR ts m r with
        | none => simp [hdr] at hrs
        | some v =>
          simp only [hdr, contK, stabOk, true_and, hdd, updo] at hrs
          refine key v ?_ ⟨fun _ => hdr, fun h => by rw [hw] at h; cases h⟩ hrs
          obtain ⟨b, hb, _⟩ := full_frame hre hsz
          obtain ⟨v', _, hv'⟩ := resR_snd (resK_r hkk) hb hs hdr
          exact ⟨v', hv'⟩
      | false =>
        simp only [hw, Bool.false_eq_true, if_false, hdd, updo] at hrs
        exact key undef ⟨undef, VR.undef _⟩ ⟨(fun h => by rw [hw] at h; cases h), fun _ => rfl⟩ hrs
end
end Go.Proofs.YtgfkjldohilmkaaDoor.Ab
