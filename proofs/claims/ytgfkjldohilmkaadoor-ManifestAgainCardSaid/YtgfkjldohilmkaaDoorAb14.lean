/- A region that draws its order, whole. -/
import Derived.Test.YtgfkjldohilmkaaDoorAb13
set_option linter.unusedVariables false
set_option linter.unusedSimpArgs false
namespace Go.Proofs.YtgfkjldohilmkaaDoor.Ab
open Go Go.RowKit

section
variable {P : Program} {w0 : World} {N : Nat} {ops : Array Oper} {sp : Nat → Sp} {sch : List Nat} {anc : Nat → Nat → Bool} {G : Loc} {Q : Fr → Mem → Prop}

theorem ready_iff {l : Array Bool} (hls : l.size = ops.size) {j : Nat} : j ∈ Region.ready .any ops l ↔ ¬ Lst l j ∧ ∃ o, ops[j]? = some o ∧ ∀ e ∈ o.after, Region.binds .any e = true → Lst l e.on := by
  rw [mem_ready]
  unfold Lst
  constructor
  · rintro ⟨h1, o, ho, h2⟩
    have hj : j < ops.size := (Array.getElem?_eq_some_iff.1 ho).1
    have hjl : j < l.size := by omega
    refine ⟨?_, o, ho, h2⟩
    simp [Array.getD, hjl] at h1 ⊢
    exact h1
  · rintro ⟨h1, o, ho, h2⟩
    have hj : j < ops.size := (Array.getElem?_eq_some_iff.1 ho).1
    have hjl : j < l.size := by omega
    refine ⟨?_, o, ho, h2⟩
    simp [Array.getD, hjl] at h1 ⊢
    exact h1

theorem lst_set {l : Array Bool} {i j : Nat} (hi : i < l.size) : Lst (l.setIfInBounds i true) j ↔ j = i ∨ Lst l j := by
  unfold Lst
  by_cases h : i = j
  · subst h
    simp [Array.getD, hi]
  · rw [getD_set_ne false h]
    simp [Ne.symm h]

theorem all_listed (hk : SchOk P N ops anc sp sch) {l : Array Bool} (hls : l.size = ops.size) (hr : Region.ready .any ops l = []) : ∀ i ∈ sch, Lst l i := by
  have key : ∀ (pre post : List Nat), sch = pre ++ post → (∀ i ∈ pre, Lst l i) → ∀ i ∈ post, Lst l i := by
    intro pre post
    induction post generalizing pre with
    | nil => intro _ _ i hi; cases hi
    | cons j post ih =>
      intro hs hp i hi
      have hj : Lst l j := by
        by_cases hj : Lst l j
        · exact hj
        · exfalso
          have hjn : j < ops.size := (hk.mem j).1 (by rw [hs]; simp)
          have : j ∈ Region.ready .any ops l := (ready_iff hls).2 ⟨hj, ops[j], by simp [hjn], fun e he hb => hp _ (hk.ord pre j post ops[j] e hs (by simp [hjn]) he hb)⟩
          rw [hr] at this
          cases this
      rcases List.mem_cons.1 hi with rfl | hi
      · exact hj
      · exact ih (pre ++ [j]) (by rw [hs]; simp) (fun q hq => by
          rcases List.mem_append.1 hq with hq | hq
          · exact hp q hq
          · simp at hq; subst hq; exact hj) i hi
  exact key [] sch rfl (by simp)

theorem inv_done (hk : SchOk P N ops anc sp sch) {l : Array Bool} {a : Act} {w : World} (h : Inv P w0 N ops anc sp sch G Q l a w true) (hr : Region.ready .any ops l = []) :
    ∃ G' ts m, Loc.le G G' ∧ St P w0 G' m w ∧ AR G' N ts a ∧ Q ts m := by
  obtain ⟨G', ts, m, pre, rest, hsch, hle, hs, hsz, hdf, hre, hl, hp, hd, hls, hn, hrs⟩ := h
  have hall := all_listed hk hls hr
  have hrest : rest = [] := by
    cases rest with
    | nil => rfl
    | cons i rest =>
      exfalso
      have hi : i ∈ pre := hl i (hall i (by rw [hsch]; simp))
      have := hk.nodup
      rw [hsch] at this
      exact (List.nodup_append.1 this).2.2 i hi i (by simp) rfl
  subst hrest
  refine ⟨G', ts, m, hle, hs, ⟨hsz, fun t ht => ?_, hdf⟩, hrs⟩
  obtain ⟨v', h1, h2⟩ := hre t ht
  rw [← h2 fun i hi hnl => (hnl (hall i (by rw [hsch]; simp [hi]))).elim]
  exact h1

/-- How many have not come up. -/
def unl (n : Nat) (l : Array Bool) : Nat := ((List.range n).filter fun i => !l.getD i false).length

theorem unl_set {n : Nat} {l : Array Bool} {i : Nat} (hin : i < n) (hil : i < l.size) (hn : ¬ Lst l i) : unl n (l.setIfInBounds i true) < unl n l := by
  unfold unl
  have key : ∀ (xs : List Nat), ((xs.filter fun j => !(l.setIfInBounds i true).getD j false).length ≤ (xs.filter fun j => !l.getD j false).length) ∧ (i ∈ xs → (xs.filter fun j => !(l.setIfInBounds i true).getD j false).length < (xs.filter fun j => !l.getD j false).length) := by
    intro xs
    induction xs with
    | nil => exact ⟨Nat.le_refl _, fun h => by cases h⟩
    | cons x xs ih =>
      by_cases hx : i = x
      · subst hx
        have e1 : (l.setIfInBounds i true).getD i false = true := (lst_set hil).2 (.inl rfl)
        have e2 : l.getD i false = false := by simpa [Lst] using hn
        rw [List.filter_cons_of_neg (by simp only [e1]; decide), List.filter_cons_of_pos (by simp only [e2]; decide)]
        simp only [List.length_cons]
        exact ⟨by omega, fun _ => by omega⟩
      · have e1 := getD_set_ne (listed := l) false hx
        simp only [List.filter_cons, e1]
        split
        · simp only [List.length_cons]
          exact ⟨by omega, fun h => by have := ih.2 (by rcases List.mem_cons.1 h with h | h; exact (hx h).elim; exact h); omega⟩
        · exact ⟨ih.1, fun h => ih.2 (by rcases List.mem_cons.1 h with h | h; exact (hx h).elim; exact h)⟩
  exact (key (List.range n)).2 (by simpa using hin)

theorem getD_put {a : Act} {d t : Nat} {v : Value} (h : t ≠ d) : (a.put (some d) v).tmps.getD t undef = a.tmps.getD t undef := by
  simp [Act.put, Array.getElem?_setIfInBounds_ne (Ne.symm h)]
theorem getD_put_same {a : Act} {d : Nat} {v : Value} (h : d < a.tmps.size) : (a.put (some d) v).tmps.getD d undef = v := by
  simp [Act.put, h]


theorem stabOk_mem {ts : Fr} {m : Mem} : ∀ {l : List (Nat × Option (Nat × Bool) × RO)}, stabOk ts m l → ∀ (d : Nat) (g : Option (Nat × Bool)) (o : RO), (d, g, o) ∈ l → wantD g ts = true → dR ts m o = some (ts d)
  | [], _, d, g, o, h, _ => by cases h
  | (d', g', o') :: l, hst, d, g, o, h, hw => by
    rcases List.mem_cons.1 h with h | h
    · cases h
      have := hst.1
      rw [if_pos hw] at this
      exact this
    · exact stabOk_mem hst.2 d g o h hw

theorem down_set {l : Array Bool} {i : Nat} {o : Oper} (hil : i < l.size) (hd : DownC ops l) (ho : ops[i]? = some o) (ha : ∀ e ∈ o.after, Region.binds .any e = true → Lst l e.on) : DownC ops (l.setIfInBounds i true) := by
  intro j oj e hj hoj he hb
  rw [lst_set hil] at hj ⊢
  right
  rcases hj with rfl | hj
  · rw [ho] at hoj; cases hoj
    exact ha e he hb
  · exact hd j oj e hj hoj he hb

theorem draw_main (hk : SchOk P N ops anc sp sch) {Q' : Exit → Act → World → Prop} (hq : ∀ G' ts m a w, Loc.le G G' → St P w0 G' m w → AR G' N ts a → Q ts m → Q' .normal a w) :
    ∀ (fuel : Nat) (l : Array Bool) (a : Act) (w : World), Inv P w0 N ops anc sp sch G Q l a w true → unl ops.size l ≤ fuel → wpAny P .any ops Q' fuel l a w := by
  intro fuel
  induction fuel with
  | zero =>
    intro l a w h hu
    have hls : l.size = ops.size := by
      obtain ⟨_, _, _, _, _, _, _, _, _, _, _, _, _, _, hls, _⟩ := h
      exact hls
    have hr : Region.ready .any ops l = [] := by
      cases hr : Region.ready .any ops l with
      | nil => rfl
      | cons i r =>
        exfalso
        have hi : i ∈ Region.ready .any ops l := by rw [hr]; simp
        obtain ⟨hn, o, ho, _⟩ := (ready_iff hls).1 hi
        have hin := (Array.getElem?_eq_some_iff.1 ho).1
        have := unl_set (n := ops.size) hin (by omega) hn
        omega
    obtain ⟨G', ts, m, h1, h2, h3, h4⟩ := inv_done hk h hr
    exact ⟨hr, hq G' ts m a w h1 h2 h3 h4⟩
  | succ fuel ih =>
    intro l a w h hu
    refine ⟨fun hr => by obtain ⟨G', ts, m, h1, h2, h3, h4⟩ := inv_done hk h hr; exact hq G' ts m a w h1 h2 h3 h4, fun i hi => ?_⟩
    obtain ⟨G', ts, m, pre, rest, hsch, hle, hs, hsz, hdf, hre, hl, hp, hd, hls, hn, hrs⟩ := h
    obtain ⟨hnl, o, ho, haft⟩ := (ready_iff hls).1 hi
    have hin := (Array.getElem?_eq_some_iff.1 ho).1
    have hil : i < l.size := by omega
    have hun := unl_set (n := ops.size) hin hil hnl
    obtain ⟨g, k, hg, hkk, hd1, hg1, hk1, hdN⟩ := hk.res i o ho
    obtain ⟨b, hb, hbt⟩ := full_frame hre hsz
    have hlook : ∀ t ∈ o.looksAt ops, ∀ j ∈ pre, ¬ Lst l j → (sp j).d ≠ some t := by
      intro t ht j hj hnj hdj
      obtain ⟨hcj, _⟩ := hp j hj hnj
      have hjn : j < ops.size := (hk.mem j).1 (by rw [hsch]; simp [hj])
      have hoj : ops[j]? = some ops[j] := by simp [hjn]
      obtain ⟨_, _, _, _, e1, _⟩ := hk.res j _ hoj
      by_cases hji : j = i
      · subst hji
        rw [ho] at hoj
        exact hk.self2 j o t hcj ho (by rw [← hd1]; exact hdj) ht
      · obtain ⟨_, f2, _⟩ := hk.fresh j i _ o t hcj hji hoj ho (by rw [← e1]; exact hdj)
        exact hnj (anc_listed hd (f2 ht) fun o' e' h' he' hb' => by rw [ho] at h'; cases h'; exact haft e' he' hb')
    have hag : ∀ t ∈ o.looksAt ops, b.tmps[t]? = a.tmps[t]? := fun t ht => hbt t fun _ => hlook t ht
    have hwant : Region.wanted o (yielded ops a.tmps) = wantD (sp i).g ts := by
      rw [← wanted_agree hag, wanted_eq hb hg, hg1]
    have hexec := exec_agree (ops := ops) (o := o) (fun cs q => hk.nosel i o cs q ho) hag
    unfold wpOp
    simp only [ho]
    by_cases hipre : i ∈ pre
    · -- it has come up ahead, over the abstract memory
      obtain ⟨hch, hst⟩ := hp i hipre hnl
      obtain ⟨d, hdd⟩ : ∃ d, (sp i).d = some d := Option.ne_none_iff_exists'.1 (hk.reads i hin hch)
      have hod : o.dst = some d := by rw [← hd1]; exact hdd
      have hst' := hst d hdd
      have hdlt := hdN d hod
      have fin : ∀ v', VR G' (ts d) v' → wpAny P .any ops Q' fuel (l.setIfInBounds i true) (a.put (some d) v') w := by
        intro v' hv'
        refine ih _ _ _ ⟨G', ts, m, pre, rest, hsch, hle, hs, by simp [Act.put, hsz], hdf, fun t ht => ?_, fun j hj => ?_, fun j hj hnj => ?_, down_set hil hd ho haft, by simp [hls], hn, hrs⟩ (by omega)
        · by_cases htd : t = d
          · subst htd
            exact ⟨v', hv', fun _ => (getD_put_same (by omega)).symm⟩
          · obtain ⟨u, h1, h2⟩ := hre t ht
            refine ⟨u, h1, fun hc => ?_⟩
            rw [getD_put htd]
            refine h2 fun j hj hnj => ?_
            by_cases hji : j = i
            · subst hji; rw [hdd]; exact fun e => htd (by cases e; rfl)
            · exact hc j hj fun hh => by rcases (lst_set hil).1 hh with h | h; exact hji h; exact hnj h
        · rcases (lst_set hil).1 hj with rfl | hj
          · exact hipre
          · exact hl j hj
        · exact hp j hj fun hh => hnj ((lst_set hil).2 (.inr hh))
      rw [hod]
      cases hkr : (sp i).k with
      | r r =>
        simp only [hkr] at hst'
        rw [hwant]
        cases hw : wantD (sp i).g ts with
        | true =>
          simp only [if_true]
          left
          have hdr := hst'.1 hw
          have hkr' : k = .r r := by rw [← hk1, hkr]
          subst hkr'
          obtain ⟨v', h1, h2⟩ := resR_snd (resK_r hkk) hb hs hdr
          unfold Oper.wp
          rw [← hexec, h1, Oper.upon_value, hod]
          exact fin v' h2
        | false =>
          simp only [Bool.false_eq_true, if_false]
          have := hst'.2 hw
          exact fin undef (by rw [this]; exact VR.undef _)
      | a x => simp only [hkr] at hst'
      | e x => simp only [hkr] at hst'
      | c x => simp only [hkr] at hst'
      | bad => simp only [hkr] at hst'
    · have hisch : i ∈ sch := (hk.mem i).2 hin
      have hirest : i ∈ rest := by
        rw [hsch] at hisch
        exact (List.mem_append.1 hisch).resolve_left hipre
      obtain ⟨c, r', rfl⟩ : ∃ c r', rest = c :: r' := by
        cases rest with
        | nil => cases hirest
        | cons c r' => exact ⟨c, r', rfl⟩
      have hcch := hn rfl c r' rfl
      have hcpre : c ∉ pre := by
        have := hk.nodup
        rw [hsch] at this
        intro hm
        exact (List.nodup_append.1 this).2.2 c hm c (by simp) rfl
      have hic : i = c := by
        rcases List.mem_cons.1 hirest with h | h
        · exact h
        · exfalso
          have ha := hk.chain pre c r' i hsch hcch h
          exact hcpre (hl c (anc_listed hd ha fun o' e' h' he' hb' => by rw [ho] at h'; cases h'; exact haft e' he' hb'))
      subst hic
      have same : ∀ (v : Value), ∀ j ∈ pre, ¬ Lst l j → ∀ dj oj, (sp j).d = some dj → (sp j).k = .r oj →
          wantD (sp j).g (updo ts o.dst v) = wantD (sp j).g ts ∧ (∀ mm, dR (updo ts o.dst v) mm oj = dR ts mm oj) ∧ updo ts o.dst v dj = ts dj := by
        intro v j hj hnj dj oj hdj hkj
        obtain ⟨hcj, hstj⟩ := hp j hj hnj
        have hji : i ≠ j := by rintro rfl; exact hcpre hj
        have hjn : j < ops.size := (hk.mem j).1 (by rw [hsch]; simp [hj])
        have hoj : ops[j]? = some ops[j] := by simp [hjn]
        obtain ⟨_, _, _, _, e1, _⟩ := hk.res j _ hoj
        have n1 : ¬ Anc ops j i := fun ha => hnj (anc_listed hd ha fun o' e' h' he' hb' => by rw [ho] at h'; cases h'; exact haft e' he' hb')
        have n2 : ¬ Anc ops i j := by
          intro ha
          obtain ⟨p1, p2, hpp⟩ := List.append_of_mem hj
          have := anc_before hk ha p1 (p2 ++ i :: r') (by rw [hsch, hpp]; simp)
          exact hcpre (by rw [hpp]; simp [this])
        obtain ⟨a1, a2⟩ := hk.apart i j o _ hji n2 n1 ho hoj
        obtain ⟨_, a3, _⟩ := Oper.apart_spec a1
        cases hod : o.dst with
        | none => exact ⟨rfl, fun _ => rfl, rfl⟩
        | some d =>
          have hsee := a2 d hod
          have hne : dj ≠ d := by
            rintro rfl
            exact a3 dj hod (by rw [← e1]; exact hdj)
          exact ⟨wantD_upd hsee, fun mm => dR_upd hkj hsee, by simp [updo, upd, hne]⟩
      -- what is pending reads the same behind it
      have keep : ∀ (v : Value) (m' : Mem), (∀ j ∈ pre, ¬ Lst l j → ∀ dj oj, (sp j).d = some dj → (sp j).k = .r oj → wantD (sp j).g (updo ts o.dst v) = true → memFree oj = false → dR (updo ts o.dst v) m' oj = some (updo ts o.dst v dj)) →
          ∀ j ∈ pre, ¬ Lst l j → isCh (sp j) = false ∧ Stable (sp j) (updo ts o.dst v) m' := by
        intro v m' hmem j hj hnj
        obtain ⟨hcj, hstj⟩ := hp j hj hnj
        refine ⟨hcj, ?_⟩
        intro dj hdj
        have hstj' := hstj dj hdj
        cases hkj : (sp j).k with
        | r oj =>
          simp only [hkj] at hstj' ⊢
          obtain ⟨q1, q2, q3⟩ := same v j hj hnj dj oj hdj hkj
          refine ⟨fun hw => ?_, fun hw => ?_⟩
          · cases hmf : memFree oj with
            | false => exact hmem j hj hnj dj oj hdj hkj hw hmf
            | true =>
              rw [q3, q2, dR_mem (m' := m) hmf]
              rw [q1] at hw
              exact hstj'.1 hw
          · rw [q3]
            rw [q1] at hw
            exact hstj'.2 hw
        | a x => simp only [hkj] at hstj'
        | e x => simp only [hkj] at hstj'
        | c x => simp only [hkj] at hstj'
        | bad => simp only [hkj] at hstj'
      have fin : ∀ (G2 : Loc) (v v' : Value) (m' : Mem) (w' : World), Loc.le G' G2 → VR G2 v v' → St P w0 G2 m' w' → (∀ j ∈ pre, ¬ Lst l j → isCh (sp j) = false ∧ Stable (sp j) (updo ts o.dst v) m') →
          RS P w0 Q (stepsOf anc sp (pre ++ [i]) r') (updo ts o.dst v) m' → wpAny P .any ops Q' fuel (l.setIfInBounds i true) (a.put o.dst v') w' := by
        intro G2 v v' m' w' g1 g2 g3 g4 g5
        refine ih _ _ _ (inv_normal hk ⟨G2, updo ts o.dst v, m', pre ++ [i], r', by rw [hsch]; simp, Loc.le_trans hle g1, g3, ?_, ?_, fun t ht => ?_, fun j hj => ?_, fun j hj hnj => ?_, down_set hil hd ho haft, by simp [hls], (fun e => by cases e), g5⟩) (by omega)
        · cases o.dst <;> simp [Act.put, hsz]
        · cases o.dst <;> simpa [Act.put] using hdf
        · have hother : ∀ u, VR G' (ts t) u → ((∀ j ∈ pre, ¬ Lst l j → (sp j).d ≠ some t) → u = a.tmps.getD t undef) → (∀ j ∈ pre ++ [i], ¬ Lst (l.setIfInBounds i true) j → (sp j).d ≠ some t) → u = a.tmps.getD t undef := by
            intro u _ h2 hc
            refine h2 fun j hj hnj => hc j (by simp [hj]) fun hh => ?_
            rcases (lst_set hil).1 hh with h | h
            · subst h; exact hcpre hj
            · exact hnj h
          cases hod : o.dst with
          | none =>
            obtain ⟨u, h1, h2⟩ := hre t ht
            exact ⟨u, h1.mono g1, fun hc => hother u h1 h2 hc⟩
          | some d =>
            by_cases htd : t = d
            · subst htd
              exact ⟨v', by simpa [updo, upd] using g2, fun _ => (getD_put_same (by omega)).symm⟩
            · obtain ⟨u, h1, h2⟩ := hre t ht
              refine ⟨u, by simpa [updo, upd, htd] using h1.mono g1, fun hc => ?_⟩
              rw [getD_put htd]
              exact hother u h1 h2 hc
        · rcases (lst_set hil).1 hj with rfl | hj
          · simp
          · simp [hl j hj]
        · rcases List.mem_append.1 hj with hj | hj
          · exact g4 j hj fun hh => hnj ((lst_set hil).2 (.inr hh))
          · simp at hj
            subst hj
            exact (hnj ((lst_set hil).2 (.inl rfl))).elim
      unfold stepsOf at hrs
      unfold RS at hrs
      simp only [hcch, if_true, hd1] at hrs
      rw [hwant]
      cases hw : wantD (sp i).g ts with
      | true =>
        simp only [if_true]
        simp only [hw, if_true] at hrs
        left
        rw [hk1] at hrs
        have hy := SK_yl hkk hb hs hrs
        rw [hexec] at hy
        refine wp_of_Yl hy ?_
        rintro v' w' ⟨G2, v, m', g1, g2, g3, g4, g5⟩
        refine fin G2 v v' m' w' g1 g2 g3 (keep v m' fun j hj hnj dj oj hdj hkj hwj hmf => ?_) g5
        refine stabOk_mem g4 dj (sp j).g oj ?_ hwj
        unfold stabOf
        rw [List.mem_filterMap]
        refine ⟨j, hj, ?_⟩
        have n1 : anc j i = false := by
          cases hrb : anc j i with
          | false => rfl
          | true => exact (hnj (anc_listed hd (hk.anc _ _ hrb) fun o' e' h' he' hb' => by rw [ho] at h'; cases h'; exact haft e' he' hb')).elim
        simp [hkj, hdj, n1, hmf]
      | false =>
        simp only [Bool.false_eq_true, if_false]
        simp only [hw, Bool.false_eq_true, if_false] at hrs
        refine fin G' undef undef m w (Loc.le_refl G') (VR.undef _) hs (keep undef m fun j hj hnj dj oj hdj hkj hwj _ => ?_) hrs
        obtain ⟨q1, q2, q3⟩ := same undef j hj hnj dj oj hdj hkj
        have hstj' := (hp j hj hnj).2 dj hdj
        simp only [hkj] at hstj'
        rw [q1] at hwj
        rw [q2, q3]
        exact hstj'.1 hwj
end
end Go.Proofs.YtgfkjldohilmkaaDoor.Ab
