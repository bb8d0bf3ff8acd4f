/- What the abstract operation yields stands for what the real one yields: of the operations that look and reckon. -/
import Derived.Test.YtgfkjldohilmkaaDoorAb5
set_option linter.unusedVariables false
set_option linter.unusedSimpArgs false
namespace Go.Proofs.YtgfkjldohilmkaaDoor.Ab
open Go Go.RowKit

section
variable {P : Program} {w0 w : World} {G : Loc} {m : Mem}

theorem snd_eqop {N : Nat} {ts : Fr} {a : Act} (ha : AR G N ts a) (hs : St P w0 G m w) (neg : Bool) (t : TypeId) (e : EqT) (x y : Operand) (hx : okX P N x = true) (hy : okX P N y = true) (he : eqOk P 9 e t = true)
    (hns : P.underlying t ≠ some .string) (hni : ∀ k, P.underlying t ≠ some (.int k))
    (hg : ∀ b, dEq e (ev ts x) (ev ts y) = some b → (eqGuard (if neg then .neq else .eql) t x y (a.eval x) (a.eval y)).run P w = .ok () w) {v : Value} (h : dR ts m (.eq neg e x y) = some v) :
    ∃ v', ((do eqGuard (if neg then .neq else .eql) t x y (a.eval x) (a.eval y); binOp (if neg then .neq else .eql) t (a.eval x) (a.eval y)) : Sem Value).run P w = .ok v' w ∧ VR G v v' := by
  simp only [dR] at h
  split at h
  · rename_i b hb
    have hv := ev_VR ha hs x hx
    have hw := ev_VR ha hs y hy
    have hr := (snd_eq (P := P) (w := w) (G := G) 9).1 e t _ _ _ _ b 10000 he (by omega) hb hv hw
    have hgd := hg b hb
    simp at h
    refine ⟨v, ?_, by rw [← h]; exact .bool _⟩
    simp only [Sem.run_bind, hgd, Result.andThen_ok]
    have key : ∀ x' y', VR G (ev ts x) x' → VR G (ev ts y) y' → (Op.equalIn 10000 t x' y').run P w = .ok b w → (binOp (if neg then .neq else .eql) t x' y').run P w = .ok v w := by
      intro x' y' h1 h2 h3
      have h4 : (Op.equal t x' y').run P w = .ok b w := h3
      generalize ev ts x = X at *
      generalize ev ts y = Y at *
      unfold dEq at hb
      split at hb <;> first | (simp at hb; done) | skip
      all_goals (try (simp [eqOk] at he; done))
      all_goals first
        | (cases h1; cases h2; cases hu : P.underlying t with
            | none => simp [eqOk, hu] at he
            | some u => cases u <;> simp [eqOk, hu] at he <;> first | exact (hni _ hu).elim | exact (hns hu).elim)
        | (cases h1 <;> cases h2 <;> cases neg <;> simp [binOp, h4, ← h])
    exact key _ _ hv hw hr
  · cases h

theorem okX_of {N : Nat} {xs : Array Operand} (h : xs.all (okX P N) = true) : ∀ x ∈ xs.toList, okX P N x = true := by
  rw [← Array.all_toList, List.all_eq_true] at h
  exact h

theorem mapM_get {α β : Type} (f : α → Option β) : ∀ (l : List α) (r : List β), l.mapM f = some r → r.length = l.length ∧ ∀ (i : Nat) (x : α), l[i]? = some x → ∃ y, f x = some y ∧ r[i]? = some y
  | [], r, h => by simp at h; subst h; simp
  | x :: l, r, h => by
    simp only [List.mapM_cons, Option.bind_eq_bind, Option.pure_def] at h
    cases hx : f x with
    | none => simp [hx] at h
    | some y =>
      cases hl : l.mapM f with
      | none => simp [hx, hl] at h
      | some r' =>
        simp [hx, hl] at h
        subst h
        obtain ⟨h1, h2⟩ := mapM_get f l r' hl
        refine ⟨by simp [h1], fun i z hz => ?_⟩
        cases i with
        | zero => simp at hz; subst hz; exact ⟨y, hx, by simp⟩
        | succ i => simp at hz; simpa using h2 i z hz

theorem cells_plain (z : Value) (h : plainV 6 z = true) : VRs G (cellsV z) z.cells.toList := VR.cells (VR.plain 6 z h)

set_option maxHeartbeats 4000000 in
theorem resR1_snd {N : Nat} {ts : Fr} {a : Act} {o : Oper} {r : RO} {v : Value} (hr : resR1 P N o = some r) (ha : AR G N ts a) (hs : St P w0 G m w) (hd : dR ts m r = some v) :
    ∃ v', (execOp a.eval o).run P w = .ok (.value v') w ∧ VR G v v' := by
  obtain ⟨dst, op, ty, pos, after, guard⟩ := o
  unfold resR1 at hr
  split at hr
  case isFalse => cases hr
  rename_i hok0
  have hok := okX_of hok0
  clear hok0
  have hE : ∀ x, okX P N x = true → VR G (ev ts x) (a.eval x) := fun x hx => ev_VR ha hs x hx
  cases op <;> simp only [Op.operands] at hok hr <;> try (cases hr; done)
  case move x =>
    simp at hr; subst hr
    simp [dR] at hd; subst hd
    exact ⟨a.eval x, by simp [execOp], hE x (hok x (by simp))⟩
  case assign x =>
    simp at hr; subst hr
    simp [dR] at hd; subst hd
    exact ⟨a.eval x, by simp [execOp], hE x (hok x (by simp))⟩
  case pick c x y =>
    simp at hr; subst hr
    have hc := hE c (hok c (by simp))
    simp only [dR] at hd
    split at hd
    · rename_i he
      rw [he] at hc; simp at hd; subst hd
      exact ⟨a.eval x, by simp only [execOp]; generalize a.eval c = z at hc; cases hc; simp [asBool], hE x (hok x (by simp))⟩
    · rename_i he
      rw [he] at hc; simp at hd; subst hd
      exact ⟨a.eval y, by simp only [execOp]; generalize a.eval c = z at hc; cases hc; simp [asBool], hE y (hok y (by simp))⟩
    · cases hd
  case load t x =>
    have hx := hE x (hok x (by simp))
    split at hr
    · rename_i h0
      simp at hr; subst hr
      simp only [dR] at hd
      split at hd
      · rename_i i o he
        rw [he] at hx
        obtain ⟨v', h1, h2⟩ := snd_ld h0 hs hx hd
        exact ⟨v', by simp [execOp, h1], h2⟩
      · cases hd
    · rename_i n hn0 h0
      simp at hr; subst hr
      simp only [dR] at hd
      split at hd
      · rename_i i o he
        rw [he] at hx
        split at hd
        · rename_i cs hc
          simp at hd; subst hd
          obtain ⟨v', h1, h2⟩ := snd_ldn hn0 h0 hs hx hc
          exact ⟨v', by simp [execOp, h1], h2⟩
        · cases hd
      · cases hd
    · cases hr
  case nilCheck x =>
    simp at hr; subst hr
    have hx := hE x (hok x (by simp))
    simp only [dR] at hd
    split at hd <;> first | (cases hd; done) | skip
    all_goals
      rename_i he
      rw [he] at hx
      simp at hd; subst hd
      refine ⟨a.eval x, ?_, hx⟩
      simp only [execOp]
      generalize a.eval x = z at hx
      cases hx <;> simp
  case binOp op t x y yt =>
    have hx := hE x (hok x (by simp))
    have hy := hE y (hok y (by simp))
    have hbin : ∀ v, dBin op (ev ts x) (ev ts y) = some v → ∃ v', (execOp a.eval ⟨dst, .binOp op t x y yt, ty, pos, after, guard⟩).run P w = .ok (.value v') w ∧ VR G v v' := by
      intro v hd
      have h0 := dBin_run (P := P) (w := w) t hd
      have hv : VR G v v := by
        unfold dBin at hd
        split at hd
        · split at hd
          · split at hd <;> simp at hd; subst hd; exact .int _ _
          · split at hd <;> simp at hd; subst hd; exact .int _ _
          · split at hd
            · split at hd <;> first | (simp at hd; subst hd; first | exact .int _ _ | exact .bool _) | (simp at hd; obtain ⟨_, rfl⟩ := hd; exact .int _ _) | (cases hd; done)
            · cases hd
        · split at hd
          · split at hd <;> simp at hd; subst hd; exact .str _
          all_goals first | (simp at hd; subst hd; exact .bool _) | (cases hd; done)
        · cases hd
      refine ⟨v, ?_, hv⟩
      simp only [execOp]
      generalize ev ts x = X at *
      generalize ev ts y = Y at *
      unfold dBin at hd
      split at hd
      · generalize a.eval x = z at hx
        generalize a.eval y = z' at hy
        cases hx; cases hy
        simp [eqGuard_at_int, h0]
      · generalize a.eval x = z at hx
        generalize a.eval y = z' at hy
        cases hx; cases hy
        simp [eqGuard_at_string, h0]
      · cases hd
    split at hr
    · rename_i hop
      have hgb : ∀ (neg : Bool), op = (if neg then .neq else .eql) → ∀ e, eqOk P 9 e t = true → P.underlying t ≠ some .string → (∀ k, P.underlying t ≠ some (.int k)) →
          (∀ b, dEq e (ev ts x) (ev ts y) = some b → (eqGuard (if neg then .neq else .eql) t x y (a.eval x) (a.eval y)).run P w = .ok () w) → dR ts m (.eq neg e x y) = some v →
          ∃ v', (execOp a.eval ⟨dst, .binOp op t x y yt, ty, pos, after, guard⟩).run P w = .ok (.value v') w ∧ VR G v v' := by
        intro neg hneg e he h1 h2 h3 h4
        obtain ⟨v', h5, h6⟩ := snd_eqop ha hs neg t e x y (hok x (by simp)) (hok y (by simp)) he h1 h2 h3 h4
        refine ⟨v', ?_, h6⟩
        subst hneg
        simp only [execOp]
        rw [Sem.run_bind, h5]
        rfl
      have hn : op = (if (op == BinOp.neq) then .neq else .eql) := by cases op <;> simp at hop <;> rfl
      split at hr
      · simp at hr; subst hr; exact hbin v hd
      · simp at hr; subst hr; exact hbin v hd
      · rename_i ms hu
        split at hr
        · rename_i hc
          simp only [Bool.and_eq_true] at hc
          simp at hr; subst hr
          refine hgb _ hn _ hc.2 (by rw [hu]; simp) (by rw [hu]; simp) (fun b hb => ?_) hd
          have hk := hc.1
          generalize ev ts x = X at *
          generalize ev ts y = Y at *
          rw [← hn]
          unfold dEq at hb
          split at hb <;> first | (cases hb; done) | skip
          all_goals (try (rename_i he; cases he; done))
          · generalize hzx : a.eval x = z at hx
            generalize hzy : a.eval y = z' at hy
            cases hx; cases hy
            cases x <;> cases y <;> simp [isK] at hk <;> first | (rw [eqGuard_nil_constR]; rfl) | (rw [eqGuard_nil_constL]; rfl)
          · generalize a.eval x = z at hx
            generalize a.eval y = z' at hy
            cases hx; cases hy
            rw [eqGuard_nil_iface]; rfl
          all_goals
            generalize a.eval x = z at hx
            generalize a.eval y = z' at hy
            cases hx; cases hy
            rw [eqGuard_at_iface]; rfl
        · cases hr
      · rename_i hu1 hu2 hu3
        split at hr
        · rename_i e hee
          split at hr
          · rename_i hc
            simp only [Bool.and_eq_true, Bool.not_eq_true'] at hc
            simp at hr; subst hr
            refine hgb _ hn _ hc.1 (fun e' => hu2 e') (fun k e' => hu1 k e') (fun b hb => ?_) hd
            generalize hX : ev ts x = X at *
            generalize hY : ev ts y = Y at *
            unfold dEq at hb
            split at hb <;> first | (cases hb; done) | skip
            all_goals (try (cases hut : P.underlying t with
              | none => simp [eqOk, hut] at hc
              | some u => cases u <;> simp [eqOk, hut] at hc <;> exact (hu3 _ hut).elim))
            all_goals
              generalize a.eval x = z at hx
              generalize a.eval y = z' at hy
            all_goals first
              | (cases hx; rw [eqGuard_at_bool]; rfl)
              | (cases hx; rw [eqGuard_at_int]; rfl)
              | (cases hx; rw [eqGuard_at_string]; rfl)
              | (cases hx; rw [eqGuard_at_pointer]; rfl)
              | (cases hx <;> rw [eqGuard_at_slice] <;> rfl)
              | (cases hx; rw [eqGuard_at_map]; rfl)
              | (cases hx; rw [eqGuard_at_nilFunc]; rfl)
              | (cases hx; rw [eqGuard_at_func]; rfl)
              | (cases hx; cases hy; exact run_eqGuard_agg w _ _ _ _ _ _ hc.2)
          · cases hr
        · cases hr
    · simp at hr; subst hr; exact hbin v hd
  case unOp op t x =>
    have hx := hE x (hok x (by simp))
    cases op <;> simp only [] at hr <;> first | (cases hr; done) | skip
    case not =>
      simp at hr; subst hr
      simp only [dR] at hd
      split at hd
      · rename_i b he
        rw [he] at hx; simp at hd; subst hd
        exact ⟨.bool (!b), by simp only [execOp]; generalize a.eval x = z at hx; cases hx; simp [Op.unary], .bool _⟩
      · cases hd
    case neg =>
      simp at hr; subst hr
      simp only [dR] at hd
      split at hd
      · rename_i k n he
        rw [he] at hx; simp at hd; subst hd
        exact ⟨.int k (k.wrap (-n)), by simp only [execOp]; generalize a.eval x = z at hx; cases hx; simp [Op.unary, Op.intArith], .int _ _⟩
      · cases hd
    case xor =>
      simp at hr; subst hr
      simp only [dR] at hd
      split at hd
      · rename_i k n he
        rw [he] at hx; simp only [Option.some.injEq] at hd; subst hd
        exact ⟨_, by simp only [execOp]; generalize a.eval x = z at hx; cases hx; rfl, .int _ _⟩
      · cases hd
  case convert s t x =>
    have hx := hE x (hok x (by simp))
    split at hr
    · rename_i k' k h1 h2
      simp at hr; subst hr
      simp only [dR] at hd
      split at hd
      · rename_i q n he
        rw [he] at hx; simp at hd; subst hd
        refine ⟨.int k (k.wrap n), ?_, .int _ _⟩
        simp only [execOp]
        generalize a.eval x = z at hx
        cases hx
        simp [convert, run_underlying h1, run_underlying h2, Conv.intToInt]
      · cases hd
    · rename_i h1 h2
      simp at hr; subst hr
      simp only [dR] at hd
      split at hd
      · rename_i q he
        rw [he] at hx; simp at hd; subst hd
        refine ⟨.string q, ?_, .str _⟩
        simp only [execOp]
        generalize a.eval x = z at hx
        cases hx
        simp [convert, run_underlying h1, run_underlying h2]
      · cases hd
    · rename_i e h1 h2
      split at hr
      · rename_i h3
        simp at hr; subst hr
        obtain ⟨v', h4, h5⟩ := snd_b2s ha hs h1 h3 h2 (hok x (by simp)) hd
        exact ⟨v', by simp [execOp, h4], h5⟩
      · cases hr
    · cases hr
  case makeInterface t x =>
    have hx := hE x (hok x (by simp))
    split at hr
    · cases hr
    · rename_i d hnd hu
      simp at hr; subst hr
      simp [dR] at hd; subst hd
      refine ⟨.iface t (a.eval x), ?_, .iface _ _ _ hx⟩
      have hc : P.concrete t = true := by
        unfold Program.concrete
        rw [hu]
        cases d <;> first | rfl | exact (hnd _ rfl).elim
      simp only [execOp]
      rw [Sem.run_bind, run_makeInterface w t _ hc]
      rfl
    · cases hr
  case makeFunc fn f c =>
    simp at hr; subst hr
    simp [dR] at hd; subst hd
    refine ⟨.func fn (f.map a.eval) (c.map a.eval), by simp [execOp, Instr.makeFunc], ?_⟩
    have key : ∀ (l : List Operand), (∀ x ∈ l, okX P N x = true) → VRs G (l.map (ev ts)) (l.map a.eval) := by
      intro l
      induction l with
      | nil => exact fun _ => .nil
      | cons x l ih => exact fun hl => .cons _ _ _ _ (hE x (hl x (by simp))) (ih fun y hy => hl y (by simp [hy]))
    have h1 := key f.toList fun x hx => hok x (by simp; exact .inl (by simpa using hx))
    have h2 := key c.toList fun x hx => hok x (by simp; exact .inr (by simpa using hx))
    have e1 : f.map a.eval = ⟨f.toList.map a.eval⟩ := by apply Array.ext'; simp
    have e2 : c.map a.eval = ⟨c.toList.map a.eval⟩ := by apply Array.ext'; simp
    rw [e1, e2]
    exact VR.func fn _ _ _ _ h1 h2
  case slice t x lo hi mx =>
    cases mx with
    | some z => simp at hr
    | none =>
      have hx := hok x (by simp)
      have hlo : lo.all (okX P N) = true := by
        cases lo with
        | none => rfl
        | some y => exact hok y (by simp)
      have hhi : hi.all (okX P N) = true := by
        cases hi with
        | none => rfl
        | some y => exact hok y (by simp)
      simp only [] at hr
      split at hr
      · rename_i hu
        simp at hr; subst hr
        obtain ⟨v', h1, h2⟩ := snd_sls ha hs hu hx hlo hhi hd
        exact ⟨v', by simp [execOp, h1], h2⟩
      · rename_i e hu
        split at hr
        · rename_i ei hi'
          simp at hr; subst hr
          obtain ⟨v', h1, h2⟩ := snd_sl ha hs hu hi' hx hlo hhi hd
          exact ⟨v', by simp [execOp, h1], h2⟩
        · cases hr
      · rename_i n e hu
        split at hr
        · rename_i ei hi'
          split at hr
          · rename_i hn
            simp at hr; subst hr
            obtain ⟨v', h1, h2⟩ := snd_sla ha hs hu hi' (by unfold maxLen; omega) hx hlo hhi hd
            exact ⟨v', by simp [execOp, h1], h2⟩
          · cases hr
        · cases hr
      · cases hr
  case fieldAddr t x k =>
    have hx := hE x (hok x (by simp))
    split at hr
    · rename_i fs hu
      split at hr
      · rename_i f hf
        split at hr
        · rename_i i hi
          split at hr
          · cases hr
          · rename_i hz
            simp at hr; subst hr
            simp only [dR] at hd
            split at hd
            · rename_i b o he
              rw [he] at hx; simp at hd; subst hd
              obtain ⟨v', h1, h2⟩ := snd_fa (P := P) (w := w) hu hf hi hz hx
              exact ⟨v', by simp [execOp, h1], h2⟩
            · cases hd
        · cases hr
      · cases hr
    · cases hr
  case field t x k =>
    have hx := hE x (hok x (by simp))
    split at hr
    · rename_i fs hu
      split at hr
      · rename_i f hf
        split at hr
        · rename_i n hn
          simp at hr; subst hr
          simp only [dR] at hd
          split at hd
          · rename_i cs he
            rw [he] at hx
            obtain ⟨v', h1, h2⟩ := snd_fld (P := P) (w := w) hu hf hn hx hd
            exact ⟨v', by simp [execOp, h1], h2⟩
          · cases hd
        · cases hr
      · cases hr
    · cases hr
  case indexAddr t x i =>
    have hx := hE x (hok x (by simp))
    have hi := hE i (hok i (by simp))
    split at hr
    · rename_i e hu
      split at hr
      · rename_i ei hei
        simp at hr; subst hr
        simp only [dR] at hd
        split at hd
        · rename_i b o n c k j he hj
          rw [he] at hx; rw [hj] at hi
          split at hd
          · rename_i hb
            simp at hd; subst hd
            obtain ⟨v', h1, h2⟩ := snd_ia (P := P) (w := w) hu hei hx hi hb.1 hb.2
            exact ⟨v', by simp [execOp, h1], h2⟩
          · cases hd
        · cases hd
      · cases hr
    · rename_i n e hu
      split at hr
      · rename_i ei hei
        simp at hr; subst hr
        simp only [dR] at hd
        split at hd
        · rename_i b o k j he hj
          rw [he] at hx; rw [hj] at hi
          split at hd
          · rename_i hb
            simp at hd; subst hd
            obtain ⟨v', h1, h2⟩ := snd_iaa (P := P) (w := w) hu hei hx hi hb.1 hb.2
            exact ⟨v', by simp [execOp, h1], h2⟩
          · cases hd
        · cases hd
      · cases hr
    · cases hr
  case index t x i =>
    have hx := hE x (hok x (by simp))
    have hi := hE i (hok i (by simp))
    split at hr
    · rename_i hu
      simp at hr; subst hr
      simp only [dR] at hd
      split at hd
      · rename_i s k j he hj
        rw [he] at hx; rw [hj] at hi
        obtain ⟨v', h1, h2⟩ := snd_ixs (P := P) (w := w) hu hx hi hd
        exact ⟨v', by simp [execOp, h1], h2⟩
      · cases hd
    · rename_i n e hu
      split at hr
      · rename_i ei k hei hk
        simp at hr; subst hr
        simp only [dR] at hd
        split at hd
        · rename_i cs q j he hj
          rw [he] at hx; rw [hj] at hi
          split at hd
          · rename_i hb
            obtain ⟨v', h1, h2⟩ := snd_ixa (P := P) (w := w) hu hk hei hx hi hb.1 hb.2 hd
            exact ⟨v', by simp [execOp, h1], h2⟩
          · cases hd
        · cases hd
      · cases hr
    · cases hr
  case extract x i =>
    simp at hr; subst hr
    have hx := hE x (hok x (by simp))
    simp only [dR] at hd
    split at hd
    · rename_i vs he
      rw [he] at hx
      simp only [execOp]
      generalize a.eval x = z at hx
      cases hx with
      | tuple c c' h =>
        obtain ⟨v', h1, h2⟩ := h.get _ _ hd
        exact ⟨v', by simp [Instr.extract, h1], h2⟩
    · cases hd
  case build t parts =>
    have hokp : (parts.toList.all fun p => okX P N p.2) = true := by
      rw [List.all_eq_true]
      intro p hp
      exact hok p.2 (by simp; exact ⟨p.1, by simpa using hp⟩)
    have emap : ((parts.map fun (i, x) => (i, a.eval x)).toList) = parts.toList.map fun p => (p.1, a.eval p.2) := by simp
    split at hr
    · rename_i it fs hit hu
      split at hr
      · rename_i z places ps hz hpl hps
        split at hr
        · rename_i hpz
          simp at hr; subst hr
          simp only [dR] at hd
          split at hd
          · rename_i cs hf
            simp at hd; subst hd
            obtain ⟨hl1, hg1⟩ := mapM_get _ _ _ hpl
            obtain ⟨hl2, hg2⟩ := mapM_get _ _ _ hps
            have hpl' : ∀ p ∈ parts.toList, ∃ f i, fs[p.1]? = some f ∧ P.info? f.type = some i ∧ places.toArray[p.1]? = some (f.offset, i.size) := by
              intro p hp
              obtain ⟨j, hj⟩ := List.getElem?_of_mem hp
              obtain ⟨y, hy1, hy2⟩ := hg2 j p hj
              cases hfp : fs[p.1]? with
              | none => simp [hfp] at hy1
              | some f =>
                obtain ⟨q, hq1, hq2⟩ := hg1 p.1 f (by simpa using hfp)
                cases hi : P.info? f.type with
                | none => simp [hi] at hq1
                | some i =>
                  simp [hi] at hq1
                  exact ⟨f, i, rfl, hi, by simp [hq2, hq1]⟩
            have hps' : ps = parts.toList.map (fun p => (((places.toArray[p.1]?).getD (0, 0)).1, ((places.toArray[p.1]?).getD (0, 0)).2, p.2)) := by
              apply List.ext_getElem?
              intro j
              cases hj : parts.toList[j]? with
              | none =>
                have : ps[j]? = none := by rw [List.getElem?_eq_none_iff] at hj ⊢; omega
                rw [this, List.getElem?_map, hj]; rfl
              | some p =>
                obtain ⟨y, hy1, hy2⟩ := hg2 j p hj
                obtain ⟨f, i, h1, h2, h3⟩ := hpl' p (List.mem_of_getElem? hj)
                simp [h1, h2] at hy1
                have h3' : places[p.1]? = some (f.offset, i.size) := by simpa using h3
                rw [hy2, List.getElem?_map, hj, ← hy1]
                simp [h3']
            obtain ⟨r', hr1, hr2⟩ := fill_snd ha hs (places.toArray[·]?) parts.toList ps hokp hps' (fun p hp => by obtain ⟨f, i, _, _, h3⟩ := hpl' p hp; simp [h3]) _ z.cells.toList cs (cells_plain z hpz) hf
            refine ⟨.agg ⟨r'⟩, ?_, .agg _ _ hr2⟩
            have hb : P.built t ((parts.map fun (i, x) => (i, a.eval x)).toList) = some ⟨r'⟩ := by
              rw [emap]
              unfold Program.built
              simp only [hit, hu, hz, hpl]
              exact hr1
            simp only [execOp]
            rw [Sem.run_bind, run_build w t _ _ hb]
            rfl
          · cases hd
        · cases hr
      · cases hr
    · rename_i it n e hit hu
      split at hr
      · rename_i z ie hz hie
        split at hr
        · rename_i hpz
          simp at hr; subst hr
          simp only [dR] at hd
          split at hd
          · rename_i cs hf
            simp at hd; subst hd
            obtain ⟨r', hr1, hr2⟩ := fill_snd ha hs (fun i => some (i * ie.size, ie.size)) parts.toList _ hokp (by simp) (fun p hp => rfl) _ z.cells.toList cs (cells_plain z hpz) hf
            refine ⟨.agg ⟨r'⟩, ?_, .agg _ _ hr2⟩
            have hb : P.built t ((parts.map fun (i, x) => (i, a.eval x)).toList) = some ⟨r'⟩ := by
              rw [emap]
              unfold Program.built
              simp only [hit, hu, hz, hie]
              exact hr1
            simp only [execOp]
            rw [Sem.run_bind, run_build w t _ _ hb]
            rfl
          · cases hd
        · cases hr
      · cases hr
    · cases hr
  case call c =>
    obtain ⟨cal, args, argT⟩ := c
    cases cal with
    | value f => simp at hr
    | invoke r mm => simp at hr
    | builtin b =>
      simp only [Call.operands] at hok
      cases b <;> simp only [] at hr <;> first | (cases hr; done) | skip
      case len =>
        have hty : ∀ d, (argT[0]?).bind P.underlying = some d → ∃ t, argT[0]? = some t ∧ P.underlying t = some d := by
          intro d h
          cases ht : argT[0]? with
          | none => simp [ht] at h
          | some t => exact ⟨t, rfl, by simpa [ht] using h⟩
        have harg : ∀ x, args.toList = [x] → args = #[x] := fun x h => by apply Array.ext'; simpa using h
        split at hr
        · rename_i x hargs hu
          obtain ⟨t, ht, hu⟩ := hty _ hu
          obtain rfl := harg x hargs
          simp at hr; subst hr
          have hx := hE x (hok x (by simp))
          simp only [dR] at hd
          split at hd
          · rename_i s he
            rw [he] at hx; simp at hd; subst hd
            refine ⟨_, ?_, .int _ _⟩
            simp only [execOp, resolve, Sem.run_bind, Sem.run_pure, Result.andThen_ok, invoke, builtin, List.map_toArray, List.map_cons, List.map_nil]
            generalize a.eval x = z at hx
            cases hx
            simp [Builtin.len_, ht, run_underlying hu, goInt]
          · cases hd
        · rename_i x e hargs hu
          obtain ⟨t, ht, hu⟩ := hty _ hu
          obtain rfl := harg x hargs
          simp at hr; subst hr
          have hx := hE x (hok x (by simp))
          simp only [dR] at hd
          split at hd
          · rename_i q n c he
            rw [he] at hx; simp at hd; subst hd
            refine ⟨_, ?_, .int _ _⟩
            simp only [execOp, resolve, Sem.run_bind, Sem.run_pure, Result.andThen_ok, invoke, builtin, List.map_toArray, List.map_cons, List.map_nil]
            generalize a.eval x = z at hx
            cases hx <;> simp [Builtin.len_, ht, run_underlying hu, goInt]
          · cases hd
        · rename_i x n e hargs hu
          obtain ⟨t, ht, hu⟩ := hty _ hu
          obtain rfl := harg x hargs
          simp at hr; subst hr
          simp [dR] at hd; subst hd
          refine ⟨_, ?_, .int _ _⟩
          simp only [execOp, resolve, Sem.run_bind, Sem.run_pure, Result.andThen_ok, invoke, builtin, List.map_toArray, List.map_cons, List.map_nil]
          simp [Builtin.len_, ht, run_underlying hu, goInt]
        · rename_i x arr hargs hu
          obtain ⟨t, ht, hu⟩ := hty _ hu
          obtain rfl := harg x hargs
          split at hr
          · rename_i n e ha2
            simp at hr; subst hr
            simp [dR] at hd; subst hd
            refine ⟨_, ?_, .int _ _⟩
            simp only [execOp, resolve, Sem.run_bind, Sem.run_pure, Result.andThen_ok, invoke, builtin, List.map_toArray, List.map_cons, List.map_nil]
            simp [Builtin.len_, ht, run_underlying hu, run_underlying ha2, goInt]
          · cases hr
        · cases hr
      case min =>
        split at hr
        · rename_i x y hargs
          obtain rfl : args = #[x, y] := by apply Array.ext'; simpa using hargs
          simp at hr; subst hr
          have hx := hE x (hok x (by simp))
          have hy := hE y (hok y (by simp))
          simp only [dR] at hd
          split at hd
          · rename_i k p q r he1 he2
            rw [he1] at hx; rw [he2] at hy; simp only [Option.some.injEq] at hd; subst hd
            refine ⟨_, ?_, .int _ _⟩
            simp only [execOp, resolve, Sem.run_bind, Sem.run_pure, Result.andThen_ok, invoke, builtin, List.map_toArray, List.map_cons, List.map_nil]
            generalize a.eval x = z at hx
            generalize a.eval y = z' at hy
            cases hx; cases hy
            simp [Builtin.min_, Builtin.min2]
          · cases hd
        · cases hr
      case max =>
        split at hr
        · rename_i x y hargs
          obtain rfl : args = #[x, y] := by apply Array.ext'; simpa using hargs
          simp at hr; subst hr
          have hx := hE x (hok x (by simp))
          have hy := hE y (hok y (by simp))
          simp only [dR] at hd
          split at hd
          · rename_i k p q r he1 he2
            rw [he1] at hx; rw [he2] at hy; simp only [Option.some.injEq] at hd; subst hd
            refine ⟨_, ?_, .int _ _⟩
            simp only [execOp, resolve, Sem.run_bind, Sem.run_pure, Result.andThen_ok, invoke, builtin, List.map_toArray, List.map_cons, List.map_nil]
            generalize a.eval x = z at hx
            generalize a.eval y = z' at hy
            cases hx; cases hy
            simp [Builtin.max_, Builtin.max2]
          · cases hd
        · cases hr
end
end Go.Proofs.YtgfkjldohilmkaaDoor.Ab
