/- A region that draws its order: the operations that make or write memory, or call, stand in one line; those that only look may come up at any time at which they would read the same. -/
import Derived.Test.YtgfkjldohilmkaaDoorAb11
set_option linter.unusedVariables false
set_option linter.unusedSimpArgs false
namespace Go.Proofs.YtgfkjldohilmkaaDoor.Ab
open Go Go.RowKit

def rdOps : RO → List Operand
  | .mv x | .ld x | .ldn _ x | .nck x | .not x | .neg x | .com x | .cvi _ x | .cvs x | .fa _ x | .fld _ _ x | .lens x | .lenl x | .mki _ x | .ext _ x | .b2s x | .cvp x | .cvu _ _ x | .usd x | .capn x | .i2s x | .tas _ _ _ x => [x]
  | .pick c a b => [c, a, b]
  | .bin _ x y | .eq _ _ x y | .ia _ x y | .iaa _ _ x y | .ixs x y | .ixa _ _ _ x y | .mn x y | .mx x y | .lku _ _ _ x y | .ieq _ _ x y => [x, y]
  | .sls x lo hi | .sl _ x lo hi | .sla _ _ x lo hi => x :: (lo.toList ++ hi.toList)
  | .lenc _ => []
  | .mkf _ f c => f ++ c
  | .bld _ ps => ps.map (·.2.2)

def memFree : RO → Bool
  | .ld _ | .ldn _ _ | .sla _ _ _ _ _ | .b2s _ | .cvp _ | .cvu _ _ _ | .lku _ _ _ _ _ => false
  | _ => true

theorem dR_mem {ts : Fr} {m m' : Mem} {o : RO} (h : memFree o = true) : dR ts m o = dR ts m' o := by
  cases o <;> first | rfl | (simp [memFree] at h; done)

theorem fillD_congr {ts ts' : Fr} : ∀ (ps : List (Nat × Nat × Operand)) (cs : List Value), (∀ p ∈ ps, ev ts p.2.2 = ev ts' p.2.2) → fillD ts ps cs = fillD ts' ps cs
  | [], cs, _ => rfl
  | (off, n, x) :: ps, cs, h => by
    have hx : ev ts x = ev ts' x := h (off, n, x) (by simp)
    simp only [fillD, hx]
    split
    · exact fillD_congr ps _ fun p hp => h p (by simp [hp])
    · rfl

theorem bnd_congr {ts ts' : Fr} {y : Option Operand} (h : ∀ x ∈ y.toList, ev ts x = ev ts' x) (d l : Nat) : bnd ts y d l = bnd ts' y d l := by
  cases y with
  | none => rfl
  | some x => simp only [bnd, h x (by simp)]

theorem slD_congr {ts ts' : Fr} {lo hi : Option Operand} (h1 : ∀ x ∈ lo.toList, ev ts x = ev ts' x) (h2 : ∀ x ∈ hi.toList, ev ts x = ev ts' x) (sz i o n : Nat) : slD sz ts lo hi i o n = slD sz ts' lo hi i o n := by
  simp only [slD, bnd_congr h1, bnd_congr h2]

theorem dR_congr {ts ts' : Fr} {m : Mem} {o : RO} (h : ∀ x ∈ rdOps o, ev ts x = ev ts' x) : dR ts m o = dR ts' m o := by
  cases o <;> simp only [rdOps] at h
  case sls x lo hi =>
    have h0 := h x (by simp)
    have h1 : ∀ y ∈ lo.toList, ev ts y = ev ts' y := fun y hy => h y (by simp only [List.mem_cons, List.mem_append]; exact .inr (.inl hy))
    have h2 : ∀ y ∈ hi.toList, ev ts y = ev ts' y := fun y hy => h y (by simp only [List.mem_cons, List.mem_append]; exact .inr (.inr hy))
    simp only [dR, h0, bnd_congr h1, bnd_congr h2]
  case sl sz x lo hi =>
    have h0 := h x (by simp)
    have h1 : ∀ y ∈ lo.toList, ev ts y = ev ts' y := fun y hy => h y (by simp only [List.mem_cons, List.mem_append]; exact .inr (.inl hy))
    have h2 : ∀ y ∈ hi.toList, ev ts y = ev ts' y := fun y hy => h y (by simp only [List.mem_cons, List.mem_append]; exact .inr (.inr hy))
    simp only [dR, h0, bnd_congr h1, bnd_congr h2, slD_congr h1 h2]
  case sla n sz x lo hi =>
    have h0 := h x (by simp)
    have h1 : ∀ y ∈ lo.toList, ev ts y = ev ts' y := fun y hy => h y (by simp only [List.mem_cons, List.mem_append]; exact .inr (.inl hy))
    have h2 : ∀ y ∈ hi.toList, ev ts y = ev ts' y := fun y hy => h y (by simp only [List.mem_cons, List.mem_append]; exact .inr (.inr hy))
    simp only [dR, h0, slD_congr h1 h2]
  case mkf fn f c =>
    have h1 : f.map (ev ts) = f.map (ev ts') := List.map_congr_left fun x hx => h x (by simp [hx])
    have h2 : c.map (ev ts) = c.map (ev ts') := List.map_congr_left fun x hx => h x (by simp [hx])
    simp only [dR, h1, h2]
  case bld z ps =>
    simp only [dR, fillD_congr ps z fun p hp => h p.2.2 (by simp; exact ⟨p.1, p.2.1, hp⟩)]
  case lenc n => rfl
  case pick c x y => simp only [dR, h c (by simp), h x (by simp), h y (by simp)]
  all_goals first
    | (rename_i x y; simp only [dR, h x (by simp), h y (by simp)]; done)
    | (rename_i x; simp only [dR, h x (by simp)]; done)

def isCh (s : Sp) : Bool := match s.k with
  | .r _ => false
  | _ => true
def isTmp (d : Nat) : Operand → Bool
  | .tmp t => t == d
  | _ => false
def seesD (d : Nat) (s : Sp) : Bool := (match s.g with | some (t, _) => t == d | none => false) || (match s.k with | .r o => (rdOps o).any (isTmp d) | _ => false)

inductive Anc (ops : Array Oper) : Nat → Nat → Prop
  | one (j : Nat) (o : Oper) (e : Edge) (h : ops[j]? = some o) (he : e ∈ o.after) (hb : Region.binds .any e = true) : Anc ops e.on j
  | step (i j : Nat) (o : Oper) (e : Edge) (h : ops[j]? = some o) (he : e ∈ o.after) (hb : Region.binds .any e = true) (k : Anc ops i e.on) : Anc ops i j

/-- What must read the same behind a step. -/
def stabOf (anc : Nat → Nat → Bool) (sp : Nat → Sp) (done : List Nat) (i : Nat) : List (Nat × Option (Nat × Bool) × RO) :=
  done.filterMap fun j => match (sp j).k, (sp j).d with
    | .r o, some d => if anc j i || memFree o then none else some (d, (sp j).g, o)
    | _, _ => none

def stepsOf (anc : Nat → Nat → Bool) (sp : Nat → Sp) : List Nat → List Nat → List Sp
  | _, [] => []
  | done, i :: rest => { sp i with stab := if isCh (sp i) then stabOf anc sp done i else [] } :: stepsOf anc sp (done ++ [i]) rest

structure SchOk (P : Program) (N : Nat) (ops : Array Oper) (anc : Nat → Nat → Bool) (sp : Nat → Sp) (sch : List Nat) : Prop where
  anc : ∀ i j, anc i j = true → Anc ops i j
  nodup : sch.Nodup
  mem : ∀ i, i ∈ sch ↔ i < ops.size
  res : ∀ i o, ops[i]? = some o → ∃ g k, resG ops N o = some g ∧ resK P N o = some k ∧ (sp i).d = o.dst ∧ (sp i).g = g ∧ (sp i).k = k ∧ (∀ d, o.dst = some d → d < N)
  ord : ∀ pre i post o e, sch = pre ++ i :: post → ops[i]? = some o → e ∈ o.after → Region.binds .any e = true → e.on ∈ pre
  chain : ∀ pre i post j, sch = pre ++ i :: post → isCh (sp i) = true → j ∈ post → Anc ops i j
  apart : ∀ i j oi oj, i ≠ j → ¬ Anc ops i j → ¬ Anc ops j i → ops[i]? = some oi → ops[j]? = some oj → oi.apart ops oj = true ∧ ∀ d, oi.dst = some d → seesD d (sp j) = false
  fresh : ∀ i j oi oj d, isCh (sp i) = false → i ≠ j → ops[i]? = some oi → ops[j]? = some oj → oi.dst = some d → oj.dst ≠ some d ∧ (d ∈ oj.looksAt ops → Anc ops i j) ∧ (seesD d (sp j) = true → Anc ops i j)
  reads : ∀ i, i < ops.size → isCh (sp i) = false → (sp i).d ≠ none
  self : ∀ i d, isCh (sp i) = false → (sp i).d = some d → seesD d (sp i) = false
  self2 : ∀ i o d, isCh (sp i) = false → ops[i]? = some o → o.dst = some d → d ∉ o.looksAt ops
  nosel : ∀ (j : Nat) (o : Oper) cs b, ops[j]? = some o → o.op ≠ .select cs b

theorem anc_before {P : Program} {N : Nat} {ops : Array Oper} {sp : Nat → Sp} {sch : List Nat} {anc : Nat → Nat → Bool} (hk : SchOk P N ops anc sp sch) {i j : Nat} (h : Anc ops i j) : ∀ pre post, sch = pre ++ j :: post → i ∈ pre := by
  induction h with
  | one j o e h he hb => exact fun pre post hs => hk.ord pre j post o e hs h he hb
  | step i j o e h he hb k ih =>
    intro pre post hs
    have h1 := hk.ord pre j post o e hs h he hb
    obtain ⟨p1, p2, hp⟩ := List.append_of_mem h1
    have := ih p1 (p2 ++ j :: post) (by rw [hs, hp]; simp)
    rw [hp]
    simp [this]

def Lst (l : Array Bool) (i : Nat) : Prop := l.getD i false = true
def DownC (ops : Array Oper) (l : Array Bool) : Prop := ∀ j o e, Lst l j → ops[j]? = some o → e ∈ o.after → Region.binds .any e = true → Lst l e.on

theorem anc_listed {ops : Array Oper} {l : Array Bool} (hd : DownC ops l) {i j : Nat} (h : Anc ops i j) : (∀ o e, ops[j]? = some o → e ∈ o.after → Region.binds .any e = true → Lst l e.on) → Lst l i := by
  induction h with
  | one j o e h he hb => exact fun hj => hj o e h he hb
  | step i j o e h he hb k ih => exact fun hj => ih fun o' e' h' he' hb' => hd _ _ _ (hj o e h he hb) h' he' hb'

/-- A step that only looks has told what stands in its slot, and would tell it again. -/
def Stable (s : Sp) (ts : Fr) (m : Mem) : Prop := ∀ d, s.d = some d → match s.k with
  | .r o => (wantD s.g ts = true → dR ts m o = some (ts d)) ∧ (wantD s.g ts = false → ts d = undef)
  | _ => False

end Go.Proofs.YtgfkjldohilmkaaDoor.Ab
