/- Contracts of functions over the abstract memory; one operation; a straight run of operations. -/
import Derived.Test.YtgfkjldohilmkaaDoorAbx9
set_option linter.unusedVariables false
set_option linter.unusedSimpArgs false
namespace Go.Proofs.YtgfkjldohilmkaaDoor.Ab
open Go Go.RowKit

def callOk (P : Program) (f : FuncId) : Bool := match P.funcs[f]? with
  | some fn => !(fn.name == "runtime.NumGoroutine") && fn.body.isSome
  | none => false

/-- What a run of one operation comes to. -/
def Yl (P : Program) (S : Value → World → Prop) : Result Next → Prop
  | .ok (.value v) w' => S v w'
  | .ok .skip w' => S undef w'
  | .ok (.enter f args) w' => Calls P f args w' fun e w'' => ∃ v, e = .returned v ∧ S v w''
  | _ => False

theorem Yl.mono {P : Program} {S S' : Value → World → Prop} {r : Result Next} (h : Yl P S r) (hs : ∀ v w, S v w → S' v w) : Yl P S' r := by
  unfold Yl at h ⊢
  split at h
  · exact hs _ _ h
  · exact hs _ _ h
  · exact Calls.mono h fun e w'' ⟨v, hv, hq⟩ => ⟨v, hv, hs _ _ hq⟩
  · exact h.elim

/-- The function ends well, and Q holds of what it hands back and of the memory behind. -/
def AbC (P : Program) (w0 : World) (f : FuncId) (args : List Value) (m : Mem) (Q : Value → Mem → Prop) : Prop :=
  ∀ (G : Loc) (w : World) (args' : List Value), St P w0 G m w → VRs G args args' →
    Yl P (fun v' w' => ∃ G' v m', Loc.le G G' ∧ VR G' v v' ∧ St P w0 G' m' w' ∧ Q v m') ((callFunc f args'.toArray).run P w)

theorem AbC.mono {P : Program} {w0 : World} {f : FuncId} {args : List Value} {m : Mem} {Q Q' : Value → Mem → Prop} (h : AbC P w0 f args m Q) (hq : ∀ v m', Q v m' → Q' v m') : AbC P w0 f args m Q' :=
  fun G w args' hs ha => (h G w args' hs ha).mono fun v' w' ⟨G', v, m', h2, h3, h4, h5⟩ => ⟨G', v, m', h2, h3, h4, hq _ _ h5⟩

inductive CO where
  | fn (f : FuncId) (args : List Operand)
  | val (x : Operand) (args : List Operand)
  | inv (x : Operand) (name : String) (args : List Operand)

/-- A method that is the type's own, of a pointer by its pointer or of a value by its value. -/
def methOf (P : Program) (t : TypeId) (name : String) : Option FuncId := match P.info? t, P.underlying t with
  | some i, some d => match i.methods.find? (·.name == name) with
    | some m => if m.path.isEmpty then
        match m.func, d with
        | some (f, true), .pointer _ => some f
        | some (_, false), .pointer _ => none
        | some (f, false), _ => some f
        | _, _ => none
      else none
    | none => none
  | _, _ => none

def dC (P : Program) (ts : Fr) : CO → Option (FuncId × List Value)
  | .fn f args => some (f, args.map (ev ts))
  | .val x args => match ev ts x with
    | .func (.func f) first captured => some (f, first.toList ++ args.map (ev ts) ++ captured.toList)
    | _ => none
  | .inv x name args => match ev ts x with
    | .iface t v => match methOf P t name with
      | some f => some (f, v :: args.map (ev ts))
      | none => none
    | _ => none

def resC (P : Program) (N : Nat) (o : Oper) : Option CO :=
  if o.op.operands.all (okX P N) then
    match o.op with
    | .call { callee := .value (.func f), args, .. } => some (.fn f args.toList)
    | .call { callee := .value x, args, .. } => some (.val x args.toList)
    | .call { callee := .invoke x name, args, .. } => some (.inv x name args.toList)
    | _ => none
  else none

inductive RK where
  | r (o : RO)
  | a (x : Operand)
  | e (o : EO)
  | c (o : CO)
  | bad

def resK (P : Program) (N : Nat) (o : Oper) : Option RK := match o.op with
  | .assign x => if okX P N x then some (.a x) else none
  | _ => match resR P N o with
    | some r => some (.r r)
    | none => match resE P N o with
      | some r => some (.e r)
      | none => match resC P N o with
        | some r => some (.c r)
        | none => some .bad

/-- One operation over the abstract memory. -/
def SK (P : Program) (w0 : World) (k : RK) (ts : Fr) (m : Mem) (R : Value → Mem → Prop) : Prop := match k with
  | .r o => match dR ts m o with
    | some v => R v m
    | none => False
  | .a x => R (ev ts x) m
  | .e o => match dE ts m o with
    | some (v, m') => R v m'
    | none => False
  | .c o => match dC P ts o with
    | some (f, args) => AbC P w0 f args m R
    | none => False
  | .bad => False

theorem SK.mono {P : Program} {w0 : World} {k : RK} {ts : Fr} {m : Mem} {R R' : Value → Mem → Prop} (h : SK P w0 k ts m R) (hr : ∀ v m', R v m' → R' v m') : SK P w0 k ts m R' := by
  unfold SK at h ⊢
  split at h
  · split at h
    · exact hr _ _ h
    · exact h
  · exact hr _ _ h
  · split at h
    · exact hr _ _ h
    · exact h
  · split at h
    · exact h.mono hr
    · exact h
  · exact h

section
variable {P : Program} {w0 w : World} {G : Loc} {m : Mem}

theorem VRs.evs {N : Nat} {ts : Fr} {a : Act} (ha : AR G N ts a) (hs : St P w0 G m w) : ∀ (l : List Operand), (∀ x ∈ l, okX P N x = true) → VRs G (l.map (ev ts)) (l.map a.eval)
  | [], _ => .nil
  | x :: l, h => .cons _ _ _ _ (ev_VR ha hs x (h x (by simp))) (VRs.evs ha hs l fun y hy => h y (by simp [hy]))

theorem run_callFunc_enter {f : FuncId} (h : callOk P f = true) (args : Array Value) (w : World) : (callFunc f args).run P w = .ok (.enter f args) w := by
  unfold callOk at h
  cases hf : P.funcs[f]? with
  | none => simp [hf] at h
  | some fn =>
    simp only [hf, Bool.and_eq_true, Bool.not_eq_true'] at h
    obtain ⟨h1, h2⟩ := h
    obtain ⟨b, hb⟩ := Option.isSome_iff_exists.1 h2
    have h1' : ¬ (fn.name = "runtime.NumGoroutine") := by
      intro e; rw [e] at h1; simp at h1
    simp [callFunc, hf, h1', hb]

theorem run_method {t : TypeId} {name : String} {f : FuncId} (h : methOf P t name = some f) (v : Value) (w : World) : (method (P.types.size + Made.depth) t v name).run P w = .ok (f, v) w := by
  unfold methOf at h
  split at h
  case h_2 => cases h
  rename_i i d hi hu
  split at h
  case h_2 => cases h
  rename_i mm hm
  split at h
  case isFalse => cases h
  rename_i hp
  have hp' : mm.path.toList = [] := by
    have : mm.path = #[] := by simpa using hp
    rw [this]
  obtain ⟨k, hk⟩ : ∃ k, P.types.size + Made.depth = k + 1 := ⟨P.types.size + Made.depth - 1, by
    have : 0 < Made.depth := by decide
    omega⟩
  rw [hk]
  split at h
  · rename_i f' e hf
    simp at h; subst h
    simp [method, typeInfo, hi, hm, hp', follow, hf, receiverAt, run_underlying hu, Place.get]
  · cases h
  · rename_i f' hf hnd
    simp at h; subst h
    simp only [method, Sem.run_bind, typeInfo, run_program, Result.andThen_ok, hi, Sem.run_pure, hm, hp', follow, hf, receiverAt, run_underlying hu]
    simp [Place.get]
  · cases h

theorem resC_snd {N : Nat} {ts : Fr} {a : Act} {o : Oper} {r : CO} {f : FuncId} {args : List Value} (hr' : resC P N o = some r) (ha : AR G N ts a) (hs : St P w0 G m w) (hd : dC P ts r = some (f, args)) :
    ∃ args' : List Value, (execOp a.eval o).run P w = (callFunc f args'.toArray).run P w ∧ VRs G args args' := by
  obtain ⟨dst, op, ty, pos, after, guard⟩ := o
  unfold resC at hr'
  split at hr'
  case isFalse => cases hr'
  rename_i hok0
  have hok := okX_of hok0
  clear hok0
  cases op <;> simp only [] at hr' <;> try (cases hr'; done)
  case call c =>
  obtain ⟨cal, xs, tys⟩ := c
  simp only [Op.operands, Call.operands] at hok
  cases cal with
  | builtin b => simp at hr'
  | value x =>
    have hxs : ∀ y ∈ xs.toList, okX P N y = true := fun y hy => hok y (by simp; exact .inr (by simpa using hy))
    have hx0 : okX P N x = true := hok x (by simp)
    have hval : ∀ g args', dC P ts (.val x xs.toList) = some (g, args') → ∃ args'' : List Value, (execOp a.eval ⟨dst, .call ⟨.value x, xs, tys⟩, ty, pos, after, guard⟩).run P w = (callFunc g args''.toArray).run P w ∧ VRs G args' args'' := by
      intro g args' hd
      simp only [dC] at hd
      split at hd
      case h_2 => cases hd
      rename_i g' first cap hx
      simp at hd
      obtain ⟨rfl, rfl⟩ := hd
      have vx := ev_VR ha hs x hx0
      rw [hx] at vx
      generalize hz : a.eval x = z at vx
      cases vx with
      | func _ f1 c1 f2 c2 hf hc =>
        refine ⟨f2 ++ xs.toList.map a.eval ++ c2, ?_, by
          have := (hf.append (VRs.evs ha hs xs.toList hxs)).append hc
          simpa using this⟩
        simp only [execOp, resolve, hz, Deferred.ofValue, Sem.run_bind, Sem.run_pure, Result.andThen_ok, invoke]
        congr 2
        apply Array.ext'; simp
    cases x with
    | func g =>
      simp at hr'; subst hr'
      simp [dC] at hd
      obtain ⟨rfl, rfl⟩ := hd
      refine ⟨xs.toList.map a.eval, ?_, VRs.evs ha hs xs.toList hxs⟩
      simp only [execOp, resolve, Act.eval, Deferred.ofValue, Sem.run_bind, Sem.run_pure, Result.andThen_ok, invoke]
      congr 2
      apply Array.ext'; simp
    | tmp t => simp at hr'; subst hr'; exact hval _ _ hd
    | const c => simp at hr'; subst hr'; exact hval _ _ hd
    | global g => simp at hr'; subst hr'; exact hval _ _ hd
  | invoke x name =>
    have hxs : ∀ y ∈ xs.toList, okX P N y = true := fun y hy => hok y (by simp; exact .inr (by simpa using hy))
    have hx0 : okX P N x = true := hok x (by simp)
    simp at hr'; subst hr'
    simp only [dC] at hd
    split at hd
    case h_2 => cases hd
    rename_i t v hx
    split at hd
    case h_2 => cases hd
    rename_i g hg
    simp at hd
    obtain ⟨rfl, rfl⟩ := hd
    have vx := ev_VR ha hs x hx0
    rw [hx] at vx
    generalize hz : a.eval x = z at vx
    cases vx with
    | iface _ _ v' hv =>
      refine ⟨v' :: xs.toList.map a.eval, ?_, .cons _ _ _ _ hv (VRs.evs ha hs xs.toList hxs)⟩
      have hm := run_method hg v' w
      simp only [execOp, resolve, hz, Sem.run_bind, Sem.run_pure, Result.andThen_ok, invoke]
      have e0 : (#[Value.iface t v'] ++ Array.map a.eval xs)[0]? = some (.iface t v') := by
        rw [Array.getElem?_append_left (by simp)]; rfl
      have e1 : (#[Value.iface t v'] ++ Array.map a.eval xs).extract 1 (#[Value.iface t v'] ++ Array.map a.eval xs).size = (xs.toList.map a.eval).toArray := by
        apply Array.ext'
        simp
        exact List.take_of_length_le (by simp)
      simp only [e0, e1, callMethod, Sem.run_bind, run_program, Result.andThen_ok, hm]
      congr 2
      all_goals (apply Array.ext'; simp)

theorem wp_of_Yl {o : Oper} {a : Act} {S : Value → World → Prop} {next : Act → World → Prop} {Q : Exit → Act → World → Prop} (h : Yl P S ((execOp a.eval o).run P w)) (hn : ∀ v w', S v w' → next (a.put o.dst v) w') : o.wp P a w next Q := by
  unfold Oper.wp
  generalize (execOp a.eval o).run P w = r at *
  unfold Yl at h
  split at h
  · exact hn _ _ h
  · exact hn _ _ h
  · refine Calls.mono h ?_
    rintro e w'' ⟨v, rfl, hs⟩
    exact hn _ _ hs
  · exact h.elim

theorem SK_yl {N : Nat} {ts : Fr} {a : Act} {o : Oper} {k : RK} {R : Value → Mem → Prop} (hr : resK P N o = some k) (ha : AR G N ts a) (hs : St P w0 G m w) (h : SK P w0 k ts m R) :
    Yl P (fun v' w' => ∃ G' v m', Loc.le G G' ∧ VR G' v v' ∧ St P w0 G' m' w' ∧ R v m') ((execOp a.eval o).run P w) := by
  have fin : ∀ v v' w' m', OkOp P a o w v' w' → Leaves P w0 w G v m' v' w' → R v m' → Yl P (fun v' w' => ∃ G' v m', Loc.le G G' ∧ VR G' v v' ∧ St P w0 G' m' w' ∧ R v m') ((execOp a.eval o).run P w) := by
    intro v v' w' m' h1 ⟨G', h2, h3, h4⟩ h5
    rcases h1 with h1 | ⟨h1, rfl⟩
    · rw [h1]; exact ⟨G', v, m', h2, h3, h4, h5⟩
    · rw [h1]; exact ⟨G', v, m', h2, h3, h4, h5⟩
  have fout : ∀ (f : FuncId) (args args' : List Value), (execOp a.eval o).run P w = (callFunc f args'.toArray).run P w → VRs G args args' → AbC P w0 f args m R → Yl P (fun v' w' => ∃ G' v m', Loc.le G G' ∧ VR G' v v' ∧ St P w0 G' m' w' ∧ R v m') ((execOp a.eval o).run P w) := by
    intro f args args' h1 h2 h3
    rw [h1]
    exact h3 G w args' hs h2
  obtain ⟨dst, op, ty, pos, after, guard⟩ := o
  unfold resK at hr
  split at hr
  · rename_i x he
    simp only [] at he
    subst he
    split at hr
    case isFalse => cases hr
    rename_i hx
    simp at hr; subst hr
    exact fin (ev ts x) (a.eval x) w m (.inl (by simp [execOp])) ⟨G, Loc.le_refl G, ev_VR ha hs x hx, hs⟩ h
  · split at hr
    · rename_i r hr'
      simp at hr; subst hr
      simp only [SK] at h
      split at h
      · rename_i v hd
        obtain ⟨v', h1, h2⟩ := resR_snd hr' ha hs hd
        exact fin v v' w m (.inl h1) ⟨G, Loc.le_refl G, h2, hs⟩ h
      · exact h.elim
    · split at hr
      · rename_i r hr'
        simp at hr; subst hr
        simp only [SK] at h
        split at h
        · rename_i v m' hd
          obtain ⟨v', w', h1, h2⟩ := resE_snd hr' ha hs hd
          exact fin v v' w' m' h1 h2 h
        · exact h.elim
      · split at hr
        case h_2 =>
          simp at hr; subst hr
          exact h.elim
        rename_i r hr'
        simp at hr; subst hr
        simp only [SK] at h
        split at h
        case h_2 => exact h.elim
        rename_i f args hd
        obtain ⟨args', h1, h2⟩ := resC_snd hr' ha hs hd
        exact fout f args args' h1 h2 h
end
end Go.Proofs.YtgfkjldohilmkaaDoor.Ab
