/- The table from the model's operations to the abstract ones that look and reckon, and that each holds. -/
import Derived.Test.YtgfkjldohilmkaaDoorAb4
import Derived.Laws.Tables
import Derived.WalkLawsBesides
set_option linter.unusedVariables false
set_option linter.unusedSimpArgs false
namespace Go.Proofs.YtgfkjldohilmkaaDoor.Ab
open Go Go.RowKit

def constTypes (x y : Operand) : List TypeId := match x, y with
  | .const (.iface t _), _ => [t]
  | _, .const (.iface t _) => [t]
  | _, _ => []
def isK : Operand → Bool
  | .const _ => true
  | _ => false

def eqT (P : Program) : Nat → TypeId → Option EqT
  | 0, _ => none
  | d + 1, t => match P.underlying t with
    | some .bool => some .bool
    | some (.int _) => some .int
    | some .string => some .str
    | some (.pointer _) => some .ptr
    | some (.slice _) => some .slice
    | some (.map _ _) => some .map
    | some (.func _ _ _) => some .func
    | some (.struct fs) => (fs.toList.mapM fun f => (aggN P f.type).bind fun n => (eqT P d f.type).map fun e => (f.offset, n, e)).map .recd
    | _ => none

def fieldParts (P : Program) (fs : Array Field) (parts : List (Nat × Operand)) : Option (List (Nat × Nat × Operand)) :=
  parts.mapM fun p => (fs[p.1]?).bind fun f => (P.info? f.type).map fun i => (f.offset, i.size, p.2)

def resR1 (P : Program) (N : Nat) (o : Oper) : Option RO :=
  if o.op.operands.all (okX P N) then
    match o.op with
    | .move x => some (.mv x)
    | .assign x => some (.mv x)
    | .pick c a b => some (.pick c a b)
    | .load t x => match aggN P t with
      | some 0 => some (.ld x)
      | some n => some (.ldn n x)
      | none => none
    | .nilCheck x => some (.nck x)
    | .binOp op t x y _ =>
      if op == .eql || op == .neq then
        match P.underlying t with
        | some (.int _) => some (.bin op x y)
        | some .string => some (.bin op x y)
        | some (.interface _) => if (isK x || isK y) && eqOk P 9 (.iface (constTypes x y)) t then some (.eq (op == .neq) (.iface (constTypes x y)) x y) else none
        | _ => match eqT P 8 t with
          | some e => if eqOk P 9 e t && !P.eqGuardType P.depth t then some (.eq (op == .neq) e x y) else none
          | none => none
      else some (.bin op x y)
    | .unOp .not _ x => some (.not x)
    | .unOp .neg _ x => some (.neg x)
    | .unOp .xor _ x => some (.com x)
    | .convert s t x => match P.underlying s, P.underlying t with
      | some (.int _), some (.int k) => some (.cvi k x)
      | some .string, some .string => some (.cvs x)
      | some (.slice e), some .string => match P.underlying e with
        | some (.int .u8) => some (.b2s x)
        | _ => none
      | _, _ => none
    | .makeInterface t x => match P.underlying t with
      | some (.interface _) => none
      | some _ => some (.mki t x)
      | none => none
    | .makeFunc fn f c => some (.mkf fn f.toList c.toList)
    | .slice t x lo hi none => match P.underlying t with
      | some .string => some (.sls x lo hi)
      | some (.slice e) => match P.info? e with
        | some i => some (.sl i.size x lo hi)
        | none => none
      | some (.array n e) => match P.info? e with
        | some i => if n ≤ 1099511627776 then some (.sla n i.size x lo hi) else none
        | none => none
      | _ => none
    | .fieldAddr t x k => match P.underlying t with
      | some (.struct fs) => match fs[k]? with
        | some f => match P.info? f.type with
          | some i => if i.size = 0 then none else some (.fa f.offset x)
          | none => none
        | none => none
      | _ => none
    | .field t x k => match P.underlying t with
      | some (.struct fs) => match fs[k]? with
        | some f => match aggN P f.type with
          | some n => some (.fld f.offset n x)
          | none => none
        | none => none
      | _ => none
    | .indexAddr t x i => match P.underlying t with
      | some (.slice e) => match P.info? e with
        | some ei => some (.ia ei.size x i)
        | none => none
      | some (.array n e) => match P.info? e with
        | some ei => some (.iaa n ei.size x i)
        | none => none
      | _ => none
    | .index t x i => match P.underlying t with
      | some .string => some (.ixs x i)
      | some (.array n e) => match P.info? e, aggN P e with
        | some ei, some k => some (.ixa n ei.size k x i)
        | _, _ => none
      | _ => none
    | .extract x i => some (.ext i x)
    | .build t parts => match P.info? t, P.underlying t with
      | some it, some (.struct fs) => match it.zero, fs.toList.mapM (fun f => (P.info? f.type).map fun i => (f.offset, i.size)), fieldParts P fs parts.toList with
        | some z, some _, some ps => if plainV 6 z then some (.bld (cellsV z) ps) else none
        | _, _, _ => none
      | some it, some (.array _ e) => match it.zero, P.info? e with
        | some z, some ie => if plainV 6 z then some (.bld (cellsV z) (parts.toList.map fun p => (p.1 * ie.size, ie.size, p.2))) else none
        | _, _ => none
      | _, _ => none
    | .call { callee := .builtin .len, args, argTypes } => match args.toList, (argTypes[0]?).bind P.underlying with
      | [x], some .string => some (.lens x)
      | [x], some (.slice _) => some (.lenl x)
      | [_], some (.array n _) => some (.lenc n)
      | [_], some (.pointer arr) => match P.underlying arr with
        | some (.array n _) => some (.lenc n)
        | _ => none
      | _, _ => none
    | .call { callee := .builtin .min, args, .. } => match args.toList with
      | [x, y] => some (.mn x y)
      | _ => none
    | .call { callee := .builtin .max, args, .. } => match args.toList with
      | [x, y] => some (.mx x y)
      | _ => none
    | _ => none
  else none

theorem putAt_set (cs : List Value) (off : Nat) (v : Value) (vs : List Value) (h : off < cs.length) : putAt (cs.set off v) (off + 1) vs = putAt cs off (v :: vs) := by
  unfold putAt
  have h1 : (cs.set off v).take (off + 1) = cs.take off ++ [v] := by
    rw [List.take_succ_eq_append_getElem (by simpa using h)]
    have : (cs.set off v).take off = cs.take off := by
      apply List.ext_getElem?
      intro i
      simp only [List.getElem?_take]
      split
      · rw [List.getElem?_set_ne (by omega)]
      · rfl
    rw [this]
    simp
  have h2 : (cs.set off v).drop (off + 1 + vs.length) = cs.drop (off + (v :: vs).length) := by
    apply List.ext_getElem?
    intro i
    simp only [List.getElem?_drop, List.getElem?_set]
    rw [if_neg (by omega)]
    congr 1
    simp; omega
  rw [h1, h2]
  simp

theorem fold_put (off : Nat) : ∀ (vs : List Value) (k : Nat) (cs : List Value), off + k + vs.length ≤ cs.length →
    (vs.zipIdx k).foldl (fun (c : Array Value) (p : Value × Nat) => c.setIfInBounds (off + p.2) p.1) cs.toArray = (putAt cs (off + k) vs).toArray := by
  intro vs
  induction vs with
  | nil => intro k cs h; simp [putAt]
  | cons v vs ih =>
    intro k cs h
    simp only [List.length_cons] at h
    rw [List.zipIdx_cons, List.foldl_cons]
    show ((vs.zipIdx (k + 1)).foldl _ (cs.toArray.setIfInBounds (off + k) v)) = _
    rw [List.setIfInBounds_toArray, ih (k + 1) _ (by simp; omega), ← Nat.add_assoc, putAt_set cs (off + k) v vs (by omega)]

section
variable {P : Program} {w0 w : World} {G : Loc} {m : Mem}

theorem VR.cells {v v' : Value} (h : VR G v v') : VRs G (cellsV v) v'.cells.toList := by
  cases h <;> first
    | exact .cons _ _ _ _ (by constructor <;> assumption) .nil
    | (rename_i c c' h; exact h)

theorem VRs.putAt {cs cs' vs vs' : List Value} (h : VRs G cs cs') (k : VRs G vs vs') (off : Nat) : VRs G (putAt cs off vs) (putAt cs' off vs') := by
  unfold Ab.putAt
  rw [k.length]
  exact ((h.take off).append k).append (h.drop _)

theorem fill_snd {N : Nat} {ts : Fr} {a : Act} (ha : AR G N ts a) (hs : St P w0 G m w) (place : Nat → Option (Nat × Nat)) :
    ∀ (parts : List (Nat × Operand)) (ps : List (Nat × Nat × Operand)), (parts.all fun p => okX P N p.2) = true →
      ps = parts.map (fun p => (((place p.1).getD (0, 0)).1, ((place p.1).getD (0, 0)).2, p.2)) → (∀ p ∈ parts, (place p.1).isSome = true) →
      ∀ (cs cs' r : List Value), VRs G cs cs' → fillD ts ps cs = some r → ∃ r', Instr.fill place ⟨cs'⟩ (parts.map fun p => (p.1, a.eval p.2)) = some ⟨r'⟩ ∧ VRs G r r' := by
  intro parts
  induction parts with
  | nil =>
    intro ps _ hps _ cs cs' r hc hf
    subst hps
    simp [fillD] at hf
    subst hf
    exact ⟨cs', rfl, hc⟩
  | cons p parts ih =>
    intro ps hok hps hpl cs cs' r hc hf
    obtain ⟨i, x⟩ := p
    simp only [List.all_cons, Bool.and_eq_true] at hok
    have hp := hpl (i, x) (by simp)
    obtain ⟨⟨off, n⟩, hpi⟩ := Option.isSome_iff_exists.1 hp
    subst hps
    simp only [List.map_cons, hpi, Option.getD_some] at hf
    simp only [fillD] at hf
    split at hf
    · rename_i hcond
      obtain ⟨hl, hle⟩ := hcond
      have hx := (ev_VR ha hs x hok.1).cells
      have hlen : (a.eval x).cells.toList.length = n := by rw [hx.length, hl]
      have hsz : (a.eval x).cells.size = n := by simpa using hlen
      obtain ⟨r', h1, h2⟩ := ih _ hok.2 rfl (fun p hp => hpl p (by simp [hp])) (Ab.putAt cs off (cellsV (ev ts x))) (Ab.putAt cs' off (a.eval x).cells.toList) r (hc.putAt hx off) hf
      refine ⟨r', ?_, h2⟩
      have hfold := fold_put off (a.eval x).cells.toList 0 cs' (by rw [hc.length]; omega)
      simp only [List.map_cons, Instr.fill, hpi]
      rw [if_neg (by simp [hsz, hc.length]; omega)]
      rw [← Array.foldl_toList, Array.toList_zipIdx]
      simp only [Nat.add_zero] at hfold
      rw [hfold]
      exact h1
    · cases hf

end
end Go.Proofs.YtgfkjldohilmkaaDoor.Ab
