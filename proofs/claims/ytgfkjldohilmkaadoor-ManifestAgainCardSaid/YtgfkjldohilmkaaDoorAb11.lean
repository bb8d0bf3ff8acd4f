/- Regions, and the forms of code, over the abstract memory. -/
import Derived.Test.YtgfkjldohilmkaaDoorAb10
import Derived.ScopeJumps
set_option linter.unusedVariables false
set_option linter.unusedSimpArgs false
namespace Go.Proofs.YtgfkjldohilmkaaDoor.Ab
open Go Go.RowKit

/-- A step of a region: the slot that it writes, its guard, what it does, and what must read the same behind it. -/
structure Sp where
  d : Option Nat
  g : Option (Nat × Bool)
  k : RK
  stab : List (Nat × Option (Nat × Bool) × RO)

def wantD (g : Option (Nat × Bool)) (ts : Fr) : Bool := match g with
  | none => true
  | some (s, b) => match ts s with
    | .bool c => c == b
    | _ => false

def stabOk (ts : Fr) (m : Mem) : List (Nat × Option (Nat × Bool) × RO) → Prop
  | [] => True
  | (d, g, o) :: rest => (if wantD g ts = true then dR ts m o = some (ts d) else True) ∧ stabOk ts m rest

/-- What comes behind a step. -/
def contK (R : Fr → Mem → Prop) (d : Option Nat) (stab : List (Nat × Option (Nat × Bool) × RO)) (ts : Fr) (v : Value) (m' : Mem) : Prop := stabOk (updo ts d v) m' stab ∧ R (updo ts d v) m'

def RS (P : Program) (w0 : World) (Q : Fr → Mem → Prop) : List Sp → Fr → Mem → Prop
  | [], ts, m => Q ts m
  | s :: rest, ts, m => if wantD s.g ts = true then SK P w0 s.k ts m (contK (RS P w0 Q rest) s.d s.stab ts) else RS P w0 Q rest (updo ts s.d undef) m

theorem RS.mono {P : Program} {w0 : World} {Q Q' : Fr → Mem → Prop} (hq : ∀ ts m, Q ts m → Q' ts m) : ∀ (l : List Sp) (ts : Fr) (m : Mem), RS P w0 Q l ts m → RS P w0 Q' l ts m
  | [], ts, m, h => hq ts m h
  | s :: rest, ts, m, h => by
    unfold RS at h ⊢
    split
    · rename_i hw
      rw [if_pos hw] at h
      exact h.mono fun v m' hv => ⟨hv.1, RS.mono hq rest _ _ hv.2⟩
    · rename_i hw
      rw [if_neg hw] at h
      exact RS.mono hq rest _ _ h

/-- An operation's guard, by the slot that it looks at. -/
def resG (ops : Array Oper) (N : Nat) (o : Oper) : Option (Option (Nat × Bool)) := match o.guard with
  | none => some none
  | some (j, b) => match (ops[j]?).bind (·.dst) with
    | some s => if s < N then some (some (s, b)) else none
    | none => none

def resS (P : Program) (N : Nat) (ops : Array Oper) (o : Oper) : Option Sp :=
  if o.dst.all (fun d => decide (d < N)) then
    match resG ops N o, resK P N o with
    | some g, some k => some { d := o.dst, g := g, k := k, stab := [] }
    | _, _ => none
  else none

section
variable {P : Program} {w0 w : World} {G : Loc} {m : Mem}

theorem wanted_eq {N : Nat} {ts : Fr} {a : Act} {ops : Array Oper} {o : Oper} {g : Option (Nat × Bool)} (ha : AR G N ts a) (hg : resG ops N o = some g) : Region.wanted o (yielded ops a.tmps) = wantD g ts := by
  unfold resG at hg
  unfold Region.wanted
  split at hg
  · rename_i hn
    simp at hg; subst hg
    simp [hn, wantD]
  · rename_i j b hn
    split at hg
    case h_2 => cases hg
    rename_i s hs
    split at hg
    case isFalse => cases hg
    rename_i hlt
    simp at hg; subst hg
    have hv := ha.slots s hlt
    have hsz : s < a.tmps.size := by rw [ha.size]; exact hlt
    simp only [hn, yielded, hs, Option.bind_some, wantD]
    have e1 : a.tmps.getD s undef = a.tmps[s] := by simp [Array.getD, hsz]
    rw [e1] at hv
    rw [Array.getElem?_eq_getElem hsz]
    generalize a.tmps[s] = x at hv
    generalize ts s = y at hv
    cases hv <;> simp

/-- What holds behind code. -/
def Post (P : Program) (w0 : World) (G : Loc) (N : Nat) (Q : Exit → Fr → Mem → Prop) : Exit → Act → World → Prop :=
  fun e a' w' => ∃ G' ts' m', Loc.le G G' ∧ St P w0 G' m' w' ∧ AR G' N ts' a' ∧ Q e ts' m'

theorem Post.le {G G' : Loc} {N : Nat} {Q : Exit → Fr → Mem → Prop} {e : Exit} {a : Act} {w : World} (hg : Loc.le G G') (h : Post P w0 G' N Q e a w) : Post P w0 G N Q e a w :=
  let ⟨G2, ts, m, h1, h2⟩ := h
  ⟨G2, ts, m, Loc.le_trans hg h1, h2⟩

/-- A straight run of operations, in the text's order. -/
theorem wpList_RS {N : Nat} {ops : Array Oper} {Q : Fr → Mem → Prop} {Q' : Exit → Act → World → Prop} : ∀ (l : List Oper) (sp : List Sp) (G : Loc) (ts : Fr) (m : Mem) (a : Act) (w : World), l.mapM (resS P N ops) = some sp → St P w0 G m w → AR G N ts a → RS P w0 Q sp ts m →
    (∀ G' ts' m' a' w', Loc.le G G' → St P w0 G' m' w' → AR G' N ts' a' → Q ts' m' → Q' .normal a' w') → wpList P ops Q' l a w
  | [], sp, G, ts, m, a, w, hsp, hs, ha, h, hq => by
    simp at hsp; subst hsp
    exact hq G ts m a w (Loc.le_refl G) hs ha h
  | o :: l, sp, G, ts, m, a, w, hsp, hs, ha, h, hq => by
    simp only [List.mapM_cons, Option.bind_eq_bind, Option.pure_def] at hsp
    cases ho : resS P N ops o with
    | none => simp [ho] at hsp
    | some s =>
      cases hl : l.mapM (resS P N ops) with
      | none => simp [ho, hl] at hsp
      | some sl =>
        simp [ho, hl] at hsp
        subst hsp
        unfold resS at ho
        split at ho
        case isFalse => cases ho
        rename_i hd
        split at ho
        case h_2 => cases ho
        rename_i g k hg hk
        simp at ho; subst ho
        have hwant := wanted_eq ha hg
        unfold wpList
        unfold RS at h
        rw [hwant]
        split
        · rename_i hw
          simp only [hw, if_true] at h
          left
          refine wp_of_Yl (SK_yl hk ha hs h) ?_
          rintro v' w' ⟨G', v, m', h1, h2, h3, h4⟩
          exact wpList_RS l sl G' _ m' _ w' hl h3 ((ha.mono h1).put o.dst h2) h4.2 fun G2 ts2 m2 a2 w2 q1 => hq G2 ts2 m2 a2 w2 (Loc.le_trans h1 q1)
        · rename_i hw
          simp only [hw, if_false] at h
          exact wpList_RS l sl G _ m _ w hl hs (ha.put o.dst (VR.undef G)) h hq
end
end Go.Proofs.YtgfkjldohilmkaaDoor.Ab
