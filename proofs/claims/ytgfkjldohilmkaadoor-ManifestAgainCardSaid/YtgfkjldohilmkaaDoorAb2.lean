/- Operations that look and reckon, and leave memory as it is: what they yield over the abstract memory, and that the real ones yield what stands for it. -/
import Derived.Test.YtgfkjldohilmkaaDoorAb1
import Derived.WalkKit
import Derived.LaidEql
set_option linter.unusedVariables false
set_option linter.unusedSimpArgs false
namespace Go.Proofs.YtgfkjldohilmkaaDoor.Ab
open Go Go.RowKit

abbrev Fr := Nat → Value
def upd (ts : Fr) (d : Nat) (v : Value) : Fr := fun k => if k = d then v else ts k
def updo (ts : Fr) (d : Option Nat) (v : Value) : Fr := match d with
  | some d => upd ts d v
  | none => ts
def ev (ts : Fr) : Operand → Value
  | .tmp t => ts t
  | .const v => v
  | .global g => .pointer (some ⟨g, 0, none⟩)
  | .func f => .func (.func f) #[] #[]
def okX (P : Program) (N : Nat) : Operand → Bool
  | .tmp t => decide (t < N)
  | .const v => plainV 6 v
  | .global g => decide (g < P.globals.size)
  | .func _ => true

structure AR (G : Loc) (N : Nat) (ts : Fr) (a : Act) : Prop where
  size : a.tmps.size = N
  slots : ∀ t, t < N → VR G (ts t) (a.tmps.getD t undef)
  defers : a.defers = []

theorem AR.mono {G G' : Loc} {N : Nat} {ts : Fr} {a : Act} (h : AR G N ts a) (hg : Loc.le G G') : AR G' N ts a := ⟨h.size, fun t ht => (h.slots t ht).mono hg, h.defers⟩

theorem AR.put {G : Loc} {N : Nat} {ts : Fr} {a : Act} (h : AR G N ts a) (d : Option Nat) {v v' : Value} (hv : VR G v v') : AR G N (updo ts d v) (a.put d v') := by
  cases d with
  | none => exact h
  | some d =>
    refine ⟨by simp [Act.put, h.size], fun t ht => ?_, h.defers⟩
    by_cases e : t = d
    · subst e
      have : t < a.tmps.size := by rw [h.size]; exact ht
      simpa [updo, upd, Act.put, this] using hv
    · have := h.slots t ht
      simpa [updo, upd, e, Act.put, Array.getElem?_setIfInBounds_ne (Ne.symm e)] using this

theorem ev_VR {P : Program} {w0 w : World} {G : Loc} {N : Nat} {ts : Fr} {a : Act} {m : Mem} (h : AR G N ts a) (hs : St P w0 G m w) (x : Operand) (hx : okX P N x = true) : VR G (ev ts x) (a.eval x) := by
  cases x with
  | tmp t => simp only [okX, decide_eq_true_eq] at hx; exact h.slots t hx
  | const v => exact VR.plain 6 v hx
  | global g =>
    simp only [okX, decide_eq_true_eq] at hx
    obtain ⟨S, hS⟩ := hs.glob g hx
    have := VR.ptr (G := G) g 0 g 0 S hS
    simpa [ev, Act.eval] using this
  | func f => exact .func _ [] [] [] [] .nil .nil

/-- The cells of a block that can be read. -/
def Ent.cells? : Ent → Option (List Value)
  | .own cs _ => some cs
  | .ro cs => some cs
  | _ => none
def Mem.cell (m : Mem) (i o : Nat) : Option Value := match (m.get i).cells? with
  | some cs => cs[o]?
  | none => none
def Mem.row (m : Mem) (i o n : Nat) : Option (List Value) := match (m.get i).cells? with
  | some cs => if o + n ≤ cs.length then some ((cs.drop o).take n) else none
  | none => none

theorem St.cell {P : Program} {w0 w : World} {G : Loc} {m : Mem} (h : St P w0 G m w) {i o B b S : Nat} {v : Value} (hg : G i = some (B, b, S)) (hc : m.cell i o = some v) : ∃ v', w.cell? ⟨B, b + o, none⟩ = some v' ∧ VR G v v' := by
  unfold Mem.cell at hc
  have hnd : m.get i ≠ .dead := by intro e; rw [e] at hc; simp [Ent.cells?] at hc
  obtain ⟨B', b', S', g', r⟩ := h.ent i hnd
  rw [hg] at g'
  cases g'
  cases he : m.get i with
  | own cs e =>
    rw [he] at hc r
    simp only [Ent.cells?] at hc
    obtain ⟨_, c, fz, h1, _, _, h3⟩ := r
    obtain ⟨v', hv', hr⟩ := h3 o v hc
    exact ⟨v', by simp [World.cell?, h1, hv'], hr⟩
  | ro cs =>
    rw [he] at hc r
    simp only [Ent.cells?] at hc
    obtain ⟨hB, h3⟩ := r
    obtain ⟨v', hv', hr⟩ := h3 o v hc
    exact ⟨v', by rw [h.below.cell (p := ⟨B, b + o, none⟩) hB]; exact hv', hr⟩
  | map es c => rw [he] at hc; simp [Ent.cells?] at hc
  | siter s p => rw [he] at hc; simp [Ent.cells?] at hc
  | miter m s x c => rw [he] at hc; simp [Ent.cells?] at hc
  | dead => exact absurd he hnd

theorem Mem.row_cell {m : Mem} {i o n : Nat} {cs : List Value} (h : m.row i o n = some cs) : cs.length = n ∧ ∀ (j : Nat) (v : Value), cs[j]? = some v → m.cell i (o + j) = some v := by
  unfold Mem.row at h
  cases hc : (m.get i).cells? with
  | none => simp [hc] at h
  | some l =>
    simp only [hc] at h
    split at h
    · rename_i hle
      simp at h
      subst h
      refine ⟨by simp; omega, fun j v hj => ?_⟩
      rw [List.getElem?_take] at hj
      split at hj
      · rw [List.getElem?_drop] at hj
        simp only [Mem.cell, hc]
        exact hj
      · cases hj
    · cases h

/-- A row of cells in the real memory. -/
theorem St.row {P : Program} {w0 w : World} {G : Loc} {m : Mem} (h : St P w0 G m w) {i o n B b S : Nat} {cs : List Value} (hg : G i = some (B, b, S)) (hr : m.row i o n = some cs) :
    ∃ cs', cs'.length = n ∧ VRs G cs cs' ∧ ∀ (j : Nat) (v : Value), cs'[j]? = some v → w.cell? ((⟨B, b + o, none⟩ : Addr).add j) = some v := by
  obtain ⟨hl, hc⟩ := Mem.row_cell hr
  have key : ∀ (l : List Value) (k : Nat), (∀ (j : Nat) (v : Value), l[j]? = some v → m.cell i (k + j) = some v) → ∃ l', VRs G l l' ∧ ∀ (j : Nat) (v : Value), l'[j]? = some v → w.cell? ⟨B, b + (k + j), none⟩ = some v := by
    intro l
    induction l with
    | nil => exact fun k _ => ⟨[], .nil, by simp⟩
    | cons x l ih =>
      intro k hk
      obtain ⟨x', hx', hr'⟩ := h.cell hg (hk 0 x (by simp))
      obtain ⟨l', hl', hc'⟩ := ih (k + 1) (fun j v hj => by have := hk (j + 1) v (by simpa using hj); rwa [show k + (j + 1) = k + 1 + j from by omega] at this)
      refine ⟨x' :: l', .cons _ _ _ _ hr' hl', fun j v hj => ?_⟩
      cases j with
      | zero => simp at hj; subst hj; exact hx'
      | succ j => simp at hj; have := hc' j v hj; rwa [show k + 1 + j = k + (j + 1) from by omega] at this
  obtain ⟨cs', h1, h2⟩ := key cs o hc
  refine ⟨cs', by rw [h1.length, hl], h1, fun j v hj => ?_⟩
  rw [Addr.add_lit, Nat.add_assoc]
  exact h2 j v hj

/-- The kinds of a comparison. -/
inductive EqT where
  | bool
  | int
  | str
  | ptr
  | slice
  | map
  | func
  | iface (ts : List TypeId)
  | recd (parts : List (Nat × Nat × EqT))   -- from which cell on, how many cells (0: one value), how

def pickCells (cs : List Value) (off n : Nat) : Option Value :=
  if n = 0 then cs[off]? else if off + n ≤ cs.length then some (.agg ⟨(cs.drop off).take n⟩) else none

/-- A plain operation on two values. -/
def dBin (op : BinOp) : Value → Value → Option Value
  | .int k a, .int k' b =>
    match op with
    | .shl => if b < 0 then none else some (.int k (k.wrap (a * 2 ^ (min b.toNat k.bits))))
    | .shr => if b < 0 then none else some (.int k (a.fdiv (2 ^ (min b.toNat k.bits))))
    | _ => if k = k' then
        match op with
        | .add => some (.int k (k.wrap (a + b)))
        | .sub => some (.int k (k.wrap (a - b)))
        | .mul => some (.int k (k.wrap (a * b)))
        | .quo => if b = 0 then none else some (.int k (k.wrap (a.tdiv b)))
        | .rem => if b = 0 then none else some (.int k (a.tmod b))
        | .and => some (.int k (k.wrap ((BitVec.ofInt k.bits a &&& BitVec.ofInt k.bits b).toNat : Nat)))
        | .or => some (.int k (k.wrap ((BitVec.ofInt k.bits a ||| BitVec.ofInt k.bits b).toNat : Nat)))
        | .xor => some (.int k (k.wrap ((BitVec.ofInt k.bits a ^^^ BitVec.ofInt k.bits b).toNat : Nat)))
        | .andNot => some (.int k (k.wrap ((BitVec.ofInt k.bits a &&& ~~~ BitVec.ofInt k.bits b).toNat : Nat)))
        | .eql => some (.bool (a == b))
        | .neq => some (.bool (a != b))
        | .lss => some (.bool (decide (a < b)))
        | .leq => some (.bool (decide (a ≤ b)))
        | .gtr => some (.bool (decide (a > b)))
        | .geq => some (.bool (decide (a ≥ b)))
        | _ => none
      else none
  | .string a, .string b =>
    match op with
    | .add => if a.size + b.size ≤ 9223372036854775807 then some (.string (a ++ b)) else none
    | .eql => some (.bool (a.data.toList == b.data.toList))
    | .neq => some (.bool (!(a.data.toList == b.data.toList)))
    | .lss => some (.bool (Op.bytesLess a.data.toList b.data.toList))
    | _ => none
  | _, _ => none

theorem dBin_run {P : Program} {w : World} {op : BinOp} {x y v : Value} (t : TypeId) (h : dBin op x y = some v) : (binOp op t x y).run P w = .ok v w := by
  unfold dBin at h
  split at h
  · rename_i k a k' b
    split at h
    · split at h
      · cases h
      · rename_i hb
        simp at h; subst h
        simp [binOp, Op.shift, hb]
    · split at h
      · cases h
      · rename_i hb
        simp at h; subst h
        simp [binOp, Op.shift, hb]
    · rename_i h1 h2
      split at h
      · rename_i hk
        subst hk
        cases op
        case and => simp only [Option.some.injEq] at h; subst h; rw [binOp_and]; rfl
        case or => simp only [Option.some.injEq] at h; subst h; rw [binOp_or]; rfl
        case xor => simp only [Option.some.injEq] at h; subst h; rw [binOp_xor]; rfl
        case andNot => simp only [Option.some.injEq] at h; subst h; rw [binOp_andNot]; rfl
        case shl => exact (h1 rfl).elim
        case shr => exact (h2 rfl).elim
        all_goals simp at h
        all_goals first
          | (subst h; simp [binOp, Op.intArith, Op.intCmp]; done)
          | (obtain ⟨hb, rfl⟩ := h; simp [binOp, Op.intDiv, hb])
      · cases h
  · rename_i a b
    cases op <;> simp at h
    · obtain ⟨hb, rfl⟩ := h
      show (Op.stringOp .add a b).run P w = _
      exact run_string_add_sum w a b hb
    all_goals (subst h; simp [binOp, Op.stringOp, ByteArray.toList_eq])
  · cases h

end Go.Proofs.YtgfkjldohilmkaaDoor.Ab
