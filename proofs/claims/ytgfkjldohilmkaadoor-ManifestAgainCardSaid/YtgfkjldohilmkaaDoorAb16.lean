/- Code over the abstract memory: the tree of steps, what holds behind it, and that the real code does so. -/
import Derived.Test.YtgfkjldohilmkaaDoorAb15
set_option linter.unusedVariables false
set_option linter.unusedSimpArgs false
namespace Go.Proofs.YtgfkjldohilmkaaDoor.Ab
open Go Go.RowKit

/-- A function's code, its operations told by what they do. -/
inductive RC where
  | skip
  | run (l : List Sp)
  | seq (a b : RC)
  | cond (c : Operand) (x y : RC)
  | block (id : Nat) (b : RC)
  | loop (b : RC)
  | exit (id : Nat)
  | scope (b : RC)
  | jumps (b : RC) (l1 : Nat) (r1 : RC) (l2 : Nat) (r2 : RC)
  | label (l : Nat)
  | goto (l : Nat)
  | ret
  | stop

def compRun (P : Program) (N : Nat) (ops : Array Oper) (draw : Bool) (cert : Option (List Nat × List Nat)) : Option RC :=
  match ops.toList.mapM (resS P N ops), draw, cert with
  | some l, false, _ => some (.run l)
  | some l, true, some (sch, M) => if okSched ops M (fun i => l.getD i Sp.z) sch = true then some (.run (stepsOf (ancM M) (fun i => l.getD i Sp.z) [] sch)) else none
  | _, _, _ => none

/-- The labels that code jumps to. -/
def gotosOf : Code → List Nat
  | .seq a b => gotosOf a ++ gotosOf b
  | .cond _ a b => gotosOf a ++ gotosOf b
  | .block _ a => gotosOf a
  | .loop a => gotosOf a
  | .goto l => [l]
  | _ => []
def findR : RC → Nat → Option RC
  | .seq a b, l => match findR a l with
    | some r => some (.seq r b)
    | none => findR b l
  | .label k, l => if k == l then some .skip else none
  | _, _ => none
def scopeR (ls : List Nat) (x : RC) : Option RC := match ls with
  | [] => some (.scope x)
  | l1 :: rest => match findR x l1, findR x ((rest.find? (· != l1)).getD l1) with
    | some r1, some r2 => some (.jumps x l1 r1 ((rest.find? (· != l1)).getD l1) r2)
    | _, _ => none
def compC (P : Program) (N : Nat) (certs : List (Nat × List Nat × List Nat)) : Code → Option RC
  | .skip => some .skip
  | .region id ops draw => compRun P N ops draw (certs.lookup id)
  | .seq a b => match compC P N certs a, compC P N certs b with
    | some x, some y => some (.seq x y)
    | _, _ => none
  | .cond c a b => if okX P N c = true then match compC P N certs a, compC P N certs b with
    | some x, some y => some (.cond c x y)
    | _, _ => none else none
  | .block id a => match compC P N certs a with
    | some x => some (.block id x)
    | none => none
  | .loop a => match compC P N certs a with
    | some x => some (.loop x)
    | none => none
  | .exit id => some (.exit id)
  | .scope a => match compC P N certs a with
    | some x => scopeR (gotosOf a) x
    | none => none
  | .label l => some (.label l)
  | .goto l => some (.goto l)
  | .ret => some .ret
  | _ => some .stop

abbrev AQ := Exit → Fr → Mem → Prop
def thenA (K : Fr → Mem → Prop) (Q : AQ) : AQ
  | .normal, ts, m => K ts m
  | e, ts, m => Q e ts m
def inBlockA (id : Nat) (Q : AQ) : AQ
  | .exit i, ts, m => if i = id then Q .normal ts m else Q (.exit i) ts m
  | e, ts, m => Q e ts m
def noGotoA (Q : AQ) : AQ
  | .goto _, _, _ => False
  | e, ts, m => Q e ts m

def jumpA (l1 l2 : Nat) (J : Bool → Fr → Mem → Prop) (Q : AQ) : AQ
  | .goto l, ts, m => (l = l1 ∧ J false ts m) ∨ (l = l2 ∧ J true ts m)
  | e, ts, m => Q e ts m
def ltK (I : Bool → Nat → Fr → Mem → Prop) (k : Nat) (x : Bool) (ts : Fr) (m : Mem) : Prop := ∃ k', k' < k ∧ I x k' ts m
def exK (I : Bool → Nat → Fr → Mem → Prop) (x : Bool) (ts : Fr) (m : Mem) : Prop := ∃ k, I x k ts m
def JumpW (B R1 R2 : AQ → Fr → Mem → Prop) (l1 l2 : Nat) (Q : AQ) (ts : Fr) (m : Mem) : Prop := ∃ I : Bool → Nat → Fr → Mem → Prop,
  B (jumpA l1 l2 (exK I) Q) ts m ∧ (∀ k ts m, I false k ts m → R1 (jumpA l1 l2 (ltK I k) Q) ts m) ∧ ∀ k ts m, I true k ts m → R2 (jumpA l1 l2 (ltK I k) Q) ts m
def endK (I : Nat → Fr → Mem → Prop) (k : Nat) (ts : Fr) (m : Mem) : Prop := ∃ k', k' < k ∧ I k' ts m
def LoopW (B : AQ → Fr → Mem → Prop) (Q : AQ) (ts : Fr) (m : Mem) : Prop := ∃ (I : Nat → Fr → Mem → Prop) (n : Nat), I n ts m ∧ ∀ k ts m, I k ts m → B (thenA (endK I k) Q) ts m

/-- What holds behind code over the abstract memory. -/
def AbW (P : Program) (w0 : World) : RC → AQ → Fr → Mem → Prop
  | .skip, Q, ts, m => Q .normal ts m
  | .run l, Q, ts, m => RS P w0 (Q .normal) l ts m
  | .seq a b, Q, ts, m => AbW P w0 a (thenA (AbW P w0 b Q) Q) ts m
  | .cond c x y, Q, ts, m => match ev ts c with
    | .bool true => AbW P w0 x Q ts m
    | .bool false => AbW P w0 y Q ts m
    | _ => False
  | .block id b, Q, ts, m => AbW P w0 b (inBlockA id Q) ts m
  | .loop b, Q, ts, m => LoopW (AbW P w0 b) Q ts m
  | .exit id, Q, ts, m => Q (.exit id) ts m
  | .scope b, Q, ts, m => AbW P w0 b (noGotoA Q) ts m
  | .jumps b l1 r1 l2 r2, Q, ts, m => JumpW (AbW P w0 b) (AbW P w0 r1) (AbW P w0 r2) l1 l2 Q ts m
  | .label _, Q, ts, m => Q .normal ts m
  | .goto l, Q, ts, m => Q (.goto l) ts m
  | .ret, Q, ts, m => Q .ret ts m
  | .stop, Q, ts, m => False

theorem AbW.mono {P : Program} {w0 : World} : ∀ {c : RC} {Q Q' : AQ} {ts : Fr} {m : Mem}, AbW P w0 c Q ts m → (∀ e ts m, Q e ts m → Q' e ts m) → AbW P w0 c Q' ts m
  | .skip, Q, Q', ts, m, h, hq => hq _ _ _ h
  | .run l, Q, Q', ts, m, h, hq => RS.mono (fun ts m => hq .normal ts m) l ts m h
  | .seq a b, Q, Q', ts, m, h, hq => by
    refine AbW.mono (c := a) h fun e ts m h => ?_
    cases e with
    | normal => exact AbW.mono (c := b) h hq
    | _ => exact hq _ _ _ h
  | .cond c x y, Q, Q', ts, m, h, hq => by
    unfold AbW at h ⊢
    split at h
    · exact AbW.mono (c := x) h hq
    · exact AbW.mono (c := y) h hq
    · exact h
  | .block id b, Q, Q', ts, m, h, hq => by
    refine AbW.mono (c := b) h fun e ts m h => ?_
    cases e with
    | exit i =>
      simp only [inBlockA] at h ⊢
      split
      · rename_i hi; rw [if_pos hi] at h; exact hq _ _ _ h
      · rename_i hi; rw [if_neg hi] at h; exact hq _ _ _ h
    | _ => exact hq _ _ _ h
  | .loop b, Q, Q', ts, m, h, hq => by
    obtain ⟨I, n, h1, h2⟩ := h
    refine ⟨I, n, h1, fun k ts m hI => AbW.mono (c := b) (h2 k ts m hI) fun e ts m h => ?_⟩
    cases e with
    | normal => exact h
    | _ => exact hq _ _ _ h
  | .exit id, Q, Q', ts, m, h, hq => hq _ _ _ h
  | .scope b, Q, Q', ts, m, h, hq => by
    refine AbW.mono (c := b) h fun e ts m h => ?_
    cases e with
    | goto l => exact h
    | _ => exact hq _ _ _ h
  | .jumps b l1 r1 l2 r2, Q, Q', ts, m, h, hq => by
    obtain ⟨I, h0, h1, h2⟩ := h
    have key : ∀ J e ts m, jumpA l1 l2 J Q e ts m → jumpA l1 l2 J Q' e ts m := by
      intro J e ts m h
      cases e with
      | goto l => exact h
      | _ => exact hq _ _ _ h
    exact ⟨I, AbW.mono (c := b) h0 (key _), fun k ts m hI => AbW.mono (c := r1) (h1 k ts m hI) (key _), fun k ts m hI => AbW.mono (c := r2) (h2 k ts m hI) (key _)⟩
  | .label _, Q, Q', ts, m, h, hq => hq _ _ _ h
  | .goto l, Q, Q', ts, m, h, hq => hq _ _ _ h
  | .ret, Q, Q', ts, m, h, hq => hq _ _ _ h
  | .stop, Q, Q', ts, m, h, hq => h.elim

section
variable {P : Program} {w0 : World}

theorem run_snd {N id : Nat} {ops : Array Oper} {draw : Bool} {cert : Option (List Nat × List Nat)} {r : RC} {Q : AQ} {ts : Fr} {m : Mem} {G : Loc} {a : Act} {w : World} (hm : P.follows .mixedOrders = true)
    (hr : compRun P N ops draw cert = some r) (h : AbW P w0 r Q ts m) (hs : St P w0 G m w) (ha : AR G N ts a) : (Code.region id ops draw).wp P (Post P w0 G N Q) a w := by
  unfold compRun at hr
  split at hr
  · rename_i l hl
    simp at hr; subst hr
    exact wp_region_list (wpList_RS (Q := Q .normal) ops.toList l G ts m a w hl hs ha h fun G' ts' m' a' w' h1 h2 h3 h4 => ⟨G', ts', m', h1, h2, h3, h4⟩)
  · rename_i l sch M hl
    split at hr
    case isFalse => cases hr
    rename_i hok
    simp at hr; subst hr
    have hk := okSched_snd hl hok
    refine wp_region_any hm (draw_main (Q := Q .normal) (G := G) hk (fun G' ts' m' a' w' h1 h2 h3 h4 => ⟨G', ts', m', h1, h2, h3, h4⟩) _ _ _ _ (inv_normal hk ⟨G, ts, m, [], sch, rfl, Loc.le_refl G, hs.same rfl rfl rfl rfl, ha.size, ha.defers, fun t ht => ⟨_, ha.slots t ht, fun _ => rfl⟩, fun i hi => ?_, fun i hi => (by cases hi), fun j o e hj => ?_, by simp, (fun e => by cases e), h⟩) ?_)
    · simp [Lst, Array.getD] at hi
    · simp [Lst, Array.getD] at hj
    · unfold unl
      exact Nat.le_trans (List.length_filter_le _ _) (by simp)
  · cases hr

def Exit.jump2 (l1 l2 : Nat) (J : Bool → Act → World → Prop) (Q : Exit → Act → World → Prop) : Exit → Act → World → Prop
  | .goto l, a, w => (l = l1 ∧ J false a w) ∨ (l = l2 ∧ J true a w)
  | e, a, w => Q e a w

theorem wp_scope_two {c r1 r2 : Code} {a : Act} {w : World} {Q : Exit → Act → World → Prop} (l1 l2 : Nat) (J : Bool → Nat → Act → World → Prop) (hf1 : findLabel c l1 = some r1) (hf2 : findLabel c l2 = some r2)
    (first : c.wp P (Exit.jump2 l1 l2 (fun x a w => ∃ k, J x k a w) Q) a w)
    (pass1 : ∀ k a w, J false k a w → r1.wp P (Exit.jump2 l1 l2 (fun x a w => ∃ k', k' < k ∧ J x k' a w) Q) a w)
    (pass2 : ∀ k a w, J true k a w → r2.wp P (Exit.jump2 l1 l2 (fun x a w => ∃ k', k' < k ∧ J x k' a w) Q) a w) : (Code.scope c).wp P Q a w := by
  intro b k cs
  have hg1 : gotoIn l1 (.inScope c :: k) = some (.code r1 :: .inScope c :: k) := by simp [gotoIn, hf1]
  have hg2 : gotoIn l2 (.inScope c :: k) = some (.code r2 :: .inScope c :: k) := by simp [gotoIn, hf2]
  have key : ∀ n, (∀ a w, J false n a w → ∃ e a' w', Q e a' w' ∧ Arrives P (lone (b.at a (.code r1 :: .inScope c :: k)) cs w) b k cs e a' w') ∧ (∀ a w, J true n a w → ∃ e a' w', Q e a' w' ∧ Arrives P (lone (b.at a (.code r2 :: .inScope c :: k)) cs w) b k cs e a' w') := by
    intro n
    induction n using Nat.strongRecOn with
    | _ n ih =>
      have one : ∀ (r : Code) a w, r.wp P (Exit.jump2 l1 l2 (fun x a w => ∃ k', k' < n ∧ J x k' a w) Q) a w → ∃ e a' w', Q e a' w' ∧ Arrives P (lone (b.at a (.code r :: .inScope c :: k)) cs w) b k cs e a' w' := by
        intro r a w hr
        obtain ⟨e, a₁, w₁, hq, harr⟩ := hr b (.inScope c :: k) cs
        cases e with
        | normal => exact ⟨.normal, a₁, w₁, hq, Steps.trans harr (.one step_inScope)⟩
        | exit id => exact ⟨.exit id, a₁, w₁, hq, fun k' hk => harr k' (by simp [exitTo, hk])⟩
        | goto l' =>
          rcases hq with ⟨rfl, k', hlt, hJ⟩ | ⟨rfl, k', hlt, hJ⟩
          · obtain ⟨e₂, a₂, w₂, hq₂, harr₂⟩ := (ih _ hlt).1 a₁ w₁ hJ
            exact ⟨e₂, a₂, w₂, hq₂, .of_steps (harr _ hg1) harr₂⟩
          · obtain ⟨e₂, a₂, w₂, hq₂, harr₂⟩ := (ih _ hlt).2 a₁ w₁ hJ
            exact ⟨e₂, a₂, w₂, hq₂, .of_steps (harr _ hg2) harr₂⟩
        | ret => exact ⟨_, a₁, w₁, hq, harr⟩
        | panic ch => exact ⟨_, a₁, w₁, hq, harr⟩
        | outgrown => exact ⟨_, a₁, w₁, hq, harr⟩
      exact ⟨fun a w hJ => one r1 a w (pass1 n a w hJ), fun a w hJ => one r2 a w (pass2 n a w hJ)⟩
  obtain ⟨e, a₁, w₁, hq, harr⟩ := first b (.inScope c :: k) cs
  cases e with
  | normal => exact ⟨.normal, a₁, w₁, hq, .head step_scope (Steps.trans harr (.one step_inScope))⟩
  | exit id => exact ⟨.exit id, a₁, w₁, hq, fun k' hk => .head step_scope (harr k' (by simp [exitTo, hk]))⟩
  | goto l' =>
    rcases hq with ⟨rfl, k', hJ⟩ | ⟨rfl, k', hJ⟩
    · obtain ⟨e₂, a₂, w₂, hq₂, harr₂⟩ := (key k').1 a₁ w₁ hJ
      exact ⟨e₂, a₂, w₂, hq₂, .of_steps (.head step_scope (harr _ hg1)) harr₂⟩
    · obtain ⟨e₂, a₂, w₂, hq₂, harr₂⟩ := (key k').2 a₁ w₁ hJ
      exact ⟨e₂, a₂, w₂, hq₂, .of_steps (.head step_scope (harr _ hg2)) harr₂⟩
  | ret => exact ⟨_, a₁, w₁, hq, .of_steps (.one step_scope) harr⟩
  | panic ch => exact ⟨_, a₁, w₁, hq, .of_steps (.one step_scope) harr⟩
  | outgrown => exact ⟨_, a₁, w₁, hq, .of_steps (.one step_scope) harr⟩

theorem findR_comp {N : Nat} {certs : List (Nat × List Nat × List Nat)} : ∀ {c : Code} {x r : RC} {l : Nat}, compC P N certs c = some x → findR x l = some r → ∃ c', findLabel c l = some c' ∧ compC P N certs c' = some r ∧ SizeOf.sizeOf c' ≤ SizeOf.sizeOf c
  | .seq a b, x, r, l, hx, hr => by
    simp only [compC] at hx
    split at hx
    case h_2 => cases hx
    rename_i xa xb ha hb
    simp at hx; subst hx
    simp only [findR] at hr
    cases hfa : findR xa l with
    | some ra =>
      simp [hfa] at hr; subst hr
      obtain ⟨c', h1, h2, h3⟩ := findR_comp ha hfa
      exact ⟨.seq c' b, by simp [findLabel, h1], by simp [compC, h2, hb], by simp; omega⟩
    | none =>
      simp [hfa] at hr
      obtain ⟨c', h1, h2, h3⟩ := findR_comp hb hr
      have hn : findLabel a l = none := by
        have key : ∀ (c : Code) (x : RC), compC P N certs c = some x → findR x l = none → findLabel c l = none := by
          intro c
          induction c with
          | seq a b iha ihb =>
            intro x hx hr
            simp only [compC] at hx
            split at hx
            case h_2 => cases hx
            rename_i xa xb ha hb
            simp at hx; subst hx
            simp only [findR] at hr
            split at hr
            · cases hr
            · rename_i h
              simp [findLabel, iha _ ha h, ihb _ hb hr]
          | label k =>
            intro x hx hr
            simp [compC] at hx; subst hx
            simp only [findR] at hr
            split at hr
            · cases hr
            · rename_i h; simp [findLabel]; simpa using h
          | _ => intros; simp [findLabel]
        exact key a xa ha hfa
      exact ⟨c', by simp [findLabel, hn, h1], h2, by simp; omega⟩
  | .label k, x, r, l, hx, hr => by
    simp [compC] at hx; subst hx
    simp only [findR] at hr
    split at hr
    · rename_i h
      simp at hr; subst hr
      exact ⟨.skip, by simpa [findLabel] using h, rfl, by simp⟩
    · cases hr
  | .skip, x, r, l, hx, hr => by simp [compC] at hx; subst hx; simp [findR] at hr
  | .region id ops draw, x, r, l, hx, hr => by
    simp only [compC, compRun] at hx
    split at hx
    · simp at hx; subst hx; simp [findR] at hr
    · split at hx
      · simp at hx; subst hx; simp [findR] at hr
      · cases hx
    · cases hx
  | .cond c a b, x, r, l, hx, hr => by
    simp only [compC] at hx
    split at hx
    · split at hx
      · simp at hx; subst hx; simp [findR] at hr
      · cases hx
    · cases hx
  | .block id a, x, r, l, hx, hr => by
    simp only [compC] at hx
    split at hx
    · simp at hx; subst hx; simp [findR] at hr
    · cases hx
  | .loop a, x, r, l, hx, hr => by
    simp only [compC] at hx
    split at hx
    · simp at hx; subst hx; simp [findR] at hr
    · cases hx
  | .rangeFunc _ _ _ _, x, r, l, hx, hr => by simp [compC] at hx; subst hx; simp [findR] at hr
  | .refuse _, x, r, l, hx, hr => by simp [compC] at hx; subst hx; simp [findR] at hr
  | .exit id, x, r, l, hx, hr => by simp [compC] at hx; subst hx; simp [findR] at hr
  | .scope a, x, r, l, hx, hr => by
    simp only [compC] at hx
    split at hx
    · rename_i y hy
      unfold scopeR at hx
      split at hx
      · simp at hx; subst hx; simp [findR] at hr
      · split at hx
        · simp at hx; subst hx; simp [findR] at hr
        · cases hx
    · cases hx
  | .goto k, x, r, l, hx, hr => by simp [compC] at hx; subst hx; simp [findR] at hr
  | .ret, x, r, l, hx, hr => by simp [compC] at hx; subst hx; simp [findR] at hr

theorem AbW_snd {N : Nat} {certs : List (Nat × List Nat × List Nat)} (hm : P.follows .mixedOrders = true) : ∀ {c : Code} {r : RC} {Q : AQ} {ts : Fr} {m : Mem} {G : Loc} {a : Act} {w : World}, compC P N certs c = some r → AbW P w0 r Q ts m → St P w0 G m w → AR G N ts a → c.wp P (Post P w0 G N Q) a w
  | .skip, r, Q, ts, m, G, a, w, hr, h, hs, ha => by
    simp [compC] at hr; subst hr
    exact wp_skip ⟨G, ts, m, Loc.le_refl G, hs, ha, h⟩
  | .region id ops draw, r, Q, ts, m, G, a, w, hr, h, hs, ha => run_snd hm hr h hs ha
  | .seq x y, r, Q, ts, m, G, a, w, hr, h, hs, ha => by
    simp only [compC] at hr
    split at hr
    case h_2 => cases hr
    rename_i rx ry hx hy
    simp at hr; subst hr
    refine wp_seq (wp_mono (AbW_snd hm hx h hs ha) fun e a' w' hq => ?_)
    obtain ⟨G', ts', m', h1, h2, h3, h4⟩ := hq
    cases e with
    | normal => exact wp_mono (AbW_snd hm hy h4 h2 h3) fun e a w hq => hq.le h1
    | _ => exact ⟨G', ts', m', h1, h2, h3, h4⟩
  | .cond c x y, r, Q, ts, m, G, a, w, hr, h, hs, ha => by
    simp only [compC] at hr
    split at hr
    case isFalse => cases hr
    rename_i hc
    split at hr
    case h_2 => cases hr
    rename_i rx ry hx hy
    simp at hr; subst hr
    have hv := ev_VR ha hs c hc
    unfold AbW at h
    split at h
    · rename_i he
      rw [he] at hv
      generalize hz : a.eval c = z at hv
      cases hv
      exact wp_cond hz (AbW_snd hm hx h hs ha)
    · rename_i he
      rw [he] at hv
      generalize hz : a.eval c = z at hv
      cases hv
      exact wp_cond hz (AbW_snd hm hy h hs ha)
    · exact h.elim
  | .block id x, r, Q, ts, m, G, a, w, hr, h, hs, ha => by
    simp only [compC] at hr
    split at hr
    case h_2 => cases hr
    rename_i rx hx
    simp at hr; subst hr
    refine wp_block (wp_mono (AbW_snd hm hx h hs ha) fun e a' w' hq => ?_)
    obtain ⟨G', ts', m', h1, h2, h3, h4⟩ := hq
    cases e with
    | exit i =>
      simp only [inBlockA] at h4
      simp only [Exit.inBlock]
      split
      · rename_i hi; rw [if_pos hi] at h4; exact ⟨G', ts', m', h1, h2, h3, h4⟩
      · rename_i hi; rw [if_neg hi] at h4; exact ⟨G', ts', m', h1, h2, h3, h4⟩
    | _ => exact ⟨G', ts', m', h1, h2, h3, h4⟩
  | .loop x, r, Q, ts, m, G, a, w, hr, h, hs, ha => by
    simp only [compC] at hr
    split at hr
    case h_2 => cases hr
    rename_i rx hx
    simp at hr; subst hr
    obtain ⟨I, n, h1, h2⟩ := h
    refine wp_loop_ghost (fun k a w => ∃ G' ts m, Loc.le G G' ∧ St P w0 G' m w ∧ AR G' N ts a ∧ I k ts m) n ⟨G, ts, m, Loc.le_refl G, hs, ha, h1⟩ fun k a w hI => ?_
    obtain ⟨G', ts', m', g1, g2, g3, g4⟩ := hI
    refine wp_mono (AbW_snd hm hx (h2 k ts' m' g4) g2 g3) fun e a' w' hq => ?_
    obtain ⟨G2, ts2, m2, q1, q2, q3, q4⟩ := hq
    cases e with
    | normal =>
      obtain ⟨k', hk, hI⟩ := q4
      exact ⟨k', hk, G2, ts2, m2, Loc.le_trans g1 q1, q2, q3, hI⟩
    | _ => exact ⟨G2, ts2, m2, Loc.le_trans g1 q1, q2, q3, q4⟩
  | .rangeFunc _ _ _ _, r, Q, ts, m, G, a, w, hr, h, hs, ha => by
    simp [compC] at hr; subst hr
    exact h.elim
  | .refuse _, r, Q, ts, m, G, a, w, hr, h, hs, ha => by
    simp [compC] at hr; subst hr
    exact h.elim
  | .exit id, r, Q, ts, m, G, a, w, hr, h, hs, ha => by
    simp [compC] at hr; subst hr
    exact wp_exit ⟨G, ts, m, Loc.le_refl G, hs, ha, h⟩
  | .scope x, r, Q, ts, m, G, a, w, hr, h, hs, ha => by
    simp only [compC] at hr
    split at hr
    case h_2 => cases hr
    rename_i rx hx
    unfold scopeR at hr
    split at hr
    · simp at hr; subst hr
      refine wp_scope_straight (wp_mono (AbW_snd hm hx h hs ha) fun e a' w' hq => ?_)
      obtain ⟨G', ts', m', h1, h2, h3, h4⟩ := hq
      cases e with
      | goto l => exact h4.elim
      | _ => exact ⟨G', ts', m', h1, h2, h3, h4⟩
    · rename_i l1 rest _
      split at hr
      case h_2 => cases hr
      rename_i r1 r2 hr1 hr2
      simp at hr; subst hr
      obtain ⟨c1, f1, k1, z1⟩ := findR_comp hx hr1
      obtain ⟨c2, f2, k2, z2⟩ := findR_comp hx hr2
      obtain ⟨I, h0, h1, h2⟩ := h
      generalize (rest.find? (· != l1)).getD l1 = l2 at *
      have back : ∀ (J : Bool → Fr → Mem → Prop) (J' : Bool → Act → World → Prop) (G1 : Loc), Loc.le G G1 → (∀ x G' ts m a w, Loc.le G1 G' → St P w0 G' m w → AR G' N ts a → J x ts m → J' x a w) → ∀ e a w, Post P w0 G1 N (jumpA l1 l2 J Q) e a w → Exit.jump2 l1 l2 J' (Post P w0 G N Q) e a w := by
        intro J J' G1 hle hJ e a w hq
        obtain ⟨G', ts', m', q1, q2, q3, q4⟩ := hq
        cases e with
        | goto l => exact q4.imp (fun ⟨e, j⟩ => ⟨e, hJ _ _ _ _ _ _ q1 q2 q3 j⟩) (fun ⟨e, j⟩ => ⟨e, hJ _ _ _ _ _ _ q1 q2 q3 j⟩)
        | _ => exact ⟨G', ts', m', Loc.le_trans hle q1, q2, q3, q4⟩
      refine wp_scope_two l1 l2 (fun x k a w => ∃ G' ts m, Loc.le G G' ∧ St P w0 G' m w ∧ AR G' N ts a ∧ I x k ts m) f1 f2 ?_ ?_ ?_
      · refine wp_mono (AbW_snd hm hx h0 hs ha) (back _ _ G (Loc.le_refl G) ?_)
        rintro x G' ts m a w q1 q2 q3 ⟨k, hk⟩
        exact ⟨k, G', ts, m, q1, q2, q3, hk⟩
      · rintro k a w ⟨G', ts', m', q1, q2, q3, q4⟩
        refine wp_mono (AbW_snd hm k1 (h1 k ts' m' q4) q2 q3) (back _ _ G' q1 ?_)
        rintro x G2 ts m a w p1 p2 p3 ⟨k', hlt, hk⟩
        exact ⟨k', hlt, G2, ts, m, Loc.le_trans q1 p1, p2, p3, hk⟩
      · rintro k a w ⟨G', ts', m', q1, q2, q3, q4⟩
        refine wp_mono (AbW_snd hm k2 (h2 k ts' m' q4) q2 q3) (back _ _ G' q1 ?_)
        rintro x G2 ts m a w p1 p2 p3 ⟨k', hlt, hk⟩
        exact ⟨k', hlt, G2, ts, m, Loc.le_trans q1 p1, p2, p3, hk⟩
  | .label l, r, Q, ts, m, G, a, w, hr, h, hs, ha => by
    simp [compC] at hr; subst hr
    exact wp_label ⟨G, ts, m, Loc.le_refl G, hs, ha, h⟩
  | .goto l, r, Q, ts, m, G, a, w, hr, h, hs, ha => by
    simp [compC] at hr; subst hr
    exact wp_goto ⟨G, ts, m, Loc.le_refl G, hs, ha, h⟩
  | .ret, r, Q, ts, m, G, a, w, hr, h, hs, ha => by
    simp [compC] at hr; subst hr
    exact wp_ret ⟨G, ts, m, Loc.le_refl G, hs, ha, h⟩
termination_by c => SizeOf.sizeOf c
decreasing_by all_goals (simp_wf; try omega)

/-- What a function hands back. -/
def resV (P : Program) (N : Nat) : ResultVar → Option RO
  | .tmp t => if t < N then some (.mv (.tmp t)) else none
  | .cell a t => if a < N then match aggN P t with
    | some 0 => some (.ld (.tmp a))
    | some n => some (.ldn n (.tmp a))
    | none => none else none

def retV (ts : Fr) (m : Mem) (l : List RO) : Option Value := match l.mapM (dR ts m) with
  | some [v] => some v
  | some vs => some (.tuple ⟨vs⟩)
  | none => none

def oneRes (tmps : Array Value) : ResultVar → Sem Value
  | .tmp t => pure (tmps.getD t undef)
  | .cell a t => do loadVar t (← asAddr (tmps.getD a undef))

theorem results_eq (fn : Func) (tmps : Array Value) : results fn tmps = (do
    let vs ← fn.results.mapM (oneRes tmps)
    pure (if h : vs.size = 1 then vs[0] else .tuple vs)) := by
  unfold results
  congr 1

theorem mapM_VR {G : Loc} {N : Nat} {ts : Fr} {m : Mem} {a : Act} {w : World} (hs : St P w0 G m w) (ha : AR G N ts a) : ∀ (l : List ResultVar) (ro : List RO) (vs : List Value), l.mapM (resV P N) = some ro → ro.mapM (dR ts m) = some vs →
    ∃ vs' : List Value, (l.mapM (oneRes a.tmps)).run P w = .ok vs' w ∧ VRs G vs vs'
  | [], ro, vs, h1, h2 => by
    simp at h1; subst h1
    simp at h2; subst h2
    exact ⟨[], by simp, .nil⟩
  | r :: l, ro, vs, h1, h2 => by
    simp only [List.mapM_cons, Option.bind_eq_bind, Option.pure_def] at h1
    cases hr : resV P N r with
    | none => simp [hr] at h1
    | some o =>
      cases hl : l.mapM (resV P N) with
      | none => simp [hr, hl] at h1
      | some ro' =>
        simp [hr, hl] at h1
        subst h1
        simp only [List.mapM_cons, Option.bind_eq_bind, Option.pure_def] at h2
        cases hd : dR ts m o with
        | none => simp [hd] at h2
        | some v =>
          cases hl2 : ro'.mapM (dR ts m) with
          | none => simp [hd, hl2] at h2
          | some vs2 =>
            simp [hd, hl2] at h2
            subst h2
            obtain ⟨vs', q1, q2⟩ := mapM_VR hs ha l ro' vs2 hl hl2
            have key : ∃ v', (oneRes a.tmps r).run P w = .ok v' w ∧ VR G v v' := by
              cases r with
              | tmp t =>
                simp only [resV] at hr
                split at hr
                case isFalse => cases hr
                rename_i ht
                simp at hr; subst hr
                simp [dR, ev] at hd; subst hd
                exact ⟨_, by simp only [oneRes, Sem.run_pure], ha.slots t ht⟩
              | cell x t =>
                simp only [resV] at hr
                split at hr
                case isFalse => cases hr
                rename_i ht
                have hv := ha.slots x ht
                split at hr
                · rename_i h0
                  simp at hr; subst hr
                  simp only [dR, ev] at hd
                  split at hd
                  case h_2 => cases hd
                  rename_i i o hx
                  rw [hx] at hv
                  obtain ⟨v', r1, r2⟩ := snd_ld h0 hs hv hd
                  refine ⟨v', ?_, r2⟩
                  unfold oneRes
                  dsimp only
                  generalize a.tmps.getD x undef = z at hv r1 ⊢
                  cases hv
                  simpa [Instr.loadAt, Instr.sureAddr, asAddr] using r1
                · rename_i n hn0 h0
                  simp at hr; subst hr
                  simp only [dR, ev] at hd
                  split at hd
                  case h_2 => cases hd
                  rename_i i o hx
                  split at hd
                  case h_2 => cases hd
                  rename_i cs hc
                  simp at hd; subst hd
                  rw [hx] at hv
                  obtain ⟨v', r1, r2⟩ := snd_ldn hn0 h0 hs hv hc
                  refine ⟨v', ?_, r2⟩
                  unfold oneRes
                  dsimp only
                  generalize a.tmps.getD x undef = z at hv r1 ⊢
                  cases hv
                  simpa [Instr.loadAt, Instr.sureAddr, asAddr] using r1
                · cases hr
            obtain ⟨v', r1, r2⟩ := key
            refine ⟨v' :: vs', ?_, .cons _ _ _ _ r2 q2⟩
            rw [List.mapM_cons, Sem.run_bind, r1]
            simp only [Result.andThen_ok, Sem.run_bind, q1, Sem.run_pure]

theorem results_snd {G : Loc} {N : Nat} {ts : Fr} {m : Mem} {a : Act} {w : World} {fn : Func} {ro : List RO} {v : Value} (hs : St P w0 G m w) (ha : AR G N ts a) (hro : fn.results.toList.mapM (resV P N) = some ro) (hd : retV ts m ro = some v) :
    ∃ v', (results fn a.tmps).run P w = .ok v' w ∧ VR G v v' := by
  unfold retV at hd
  rw [results_eq, Array.mapM_eq_mapM_toList]
  split at hd
  · rename_i x hx
    simp at hd; subst hd
    obtain ⟨vs', h1, h2⟩ := mapM_VR hs ha _ _ _ hro hx
    cases h2 with
    | cons _ x' _ _ h3 h4 =>
      cases h4
      refine ⟨x', ?_, h3⟩
      simp [h1]
  · rename_i vs hne hx
    simp at hd; subst hd
    obtain ⟨vs', h1, h2⟩ := mapM_VR hs ha _ _ _ hro hx
    refine ⟨.tuple ⟨vs'⟩, ?_, .tuple _ _ h2⟩
    have hl := h2.length
    have : vs'.length ≠ 1 := by
      intro e
      rw [e] at hl
      match vs, hl with
      | [y], _ => exact hne y rfl
    simp [h1, this]
  · cases hd

/-- What holds where a function's body has come to its end. -/
def bodyA (ro : List RO) (Q : Value → Mem → Prop) : AQ
  | .normal, ts, m | .ret, ts, m => match retV ts m ro with
    | some v => Q v m
    | none => False
  | _, _, _ => False

def frA (args : List Value) : Fr := fun k => args.getD k undef

theorem AbC_of {f : FuncId} {fn : Func} {c : Code} {N : Nat} {certs : List (Nat × List Nat × List Nat)} {r : RC} {ro : List RO} {args : List Value} {m : Mem} {Q : Value → Mem → Prop}
    (hm : P.follows .mixedOrders = true) (hf : P.funcs[f]? = some fn) (hb : fn.body = some c) (hN : fn.ntmps = N) (hcall : callOk P f = true) (hr : compC P N certs c = some r) (hro : fn.results.toList.mapM (resV P N) = some ro) (hlen : args.length ≤ N)
    (h : AbW P w0 r (bodyA ro Q) (frA args) m) : AbC P w0 f args m Q := by
  intro G w args' hs hargs
  rw [run_callFunc_enter hcall]
  show Calls P f args'.toArray w _
  refine calls_of_wp hf hb ?_
  have hl := hargs.length
  have ha : AR G N (frA args) { tmps := args'.toArray ++ Array.replicate (fn.ntmps - args'.toArray.size) undef, defers := [] } := by
    refine ⟨by simp; omega, fun t ht => ?_, rfl⟩
    unfold frA
    rcases Nat.lt_or_ge t args.length with h' | h'
    · obtain ⟨v', h1, h2⟩ := hargs.get t args[t] (by simp [h'])
      have e1 : args.getD t undef = args[t] := by simp [List.getD_eq_getElem?_getD, h']
      have e2 : (args'.toArray ++ Array.replicate (fn.ntmps - args'.toArray.size) undef).getD t undef = v' := by
        rw [Array.getD_eq_getD_getElem?, Array.getElem?_append_left (by simp; omega)]
        simp [h1]
      show VR G (args.getD t undef) ((args'.toArray ++ Array.replicate (fn.ntmps - args'.toArray.size) undef).getD t undef)
      rw [e1, e2]; exact h2
    · have e1 : args.getD t undef = undef := by simp [List.getD_eq_getElem?_getD, h']
      have e2 : (args'.toArray ++ Array.replicate (fn.ntmps - args'.toArray.size) undef).getD t undef = undef := by
        rw [Array.getD_eq_getD_getElem?, Array.getElem?_append_right (by simp; omega)]
        simp [Array.getElem?_replicate]
        split <;> rfl
      show VR G (args.getD t undef) ((args'.toArray ++ Array.replicate (fn.ntmps - args'.toArray.size) undef).getD t undef)
      rw [e1, e2]; exact .undef G
  refine wp_mono (AbW_snd hm hr h hs ha) fun e a' w' hq => ?_
  obtain ⟨G', ts', m', h1, h2, h3, h4⟩ := hq
  have fin : (match retV ts' m' ro with | some v => Q v m' | none => False) → a'.defers = [] ∧ ∃ v, (results fn a'.tmps).run P w' = .ok v w' ∧ (fun e w' => ∃ v, e = Ending.returned v ∧ ∃ G' u m', Loc.le G G' ∧ VR G' u v ∧ St P w0 G' m' w' ∧ Q u m') (.returned v) w' := by
    intro hv
    split at hv
    · rename_i v hret
      obtain ⟨v', q1, q2⟩ := results_snd h2 h3 hro hret
      exact ⟨h3.defers, v', q1, v', rfl, G', v, m', h1, q2, h2, hv⟩
    · exact hv.elim
  cases e with
  | normal => exact fin h4
  | ret => exact fin h4
  | _ => exact h4.elim
end
end Go.Proofs.YtgfkjldohilmkaaDoor.Ab
