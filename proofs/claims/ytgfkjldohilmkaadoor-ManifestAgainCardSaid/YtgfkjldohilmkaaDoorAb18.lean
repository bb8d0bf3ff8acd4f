/- What a call was handed, laid into the abstract memory: whole numbers, bools, texts, slices, structs. -/
import Derived.Test.YtgfkjldohilmkaaDoorAb17
import Derived.Test.YtgfkjldohilmkaaDoorRows
import Derived.ChangeArms
import Derived.Carry
set_option linter.unusedVariables false
set_option linter.unusedSimpArgs false
namespace Go.Proofs.YtgfkjldohilmkaaDoor.Ab
open Go Go.RowKit

inductive Shp where
  | int (k : IntKind)
  | bool
  | str
  | sl (s : Shp)
  | recd (l : List Shp)
mutual
def Shp.size : Shp → Nat
  | .recd l => Shp.sizes l
  | _ => 1
def Shp.sizes : List Shp → Nat
  | [] => 0
  | s :: l => s.size + Shp.sizes l
end

inductive TD where
  | int (k : IntKind) (n : Int)
  | bool (b : Bool)
  | str (s : ByteArray)
  | sl (l : List TD)
  | recd (l : List TD)
mutual
def TD.bulk : TD → Nat
  | .str s => s.size + 1
  | .sl l => TD.bulks l + 1
  | .recd l => TD.bulks l + 1
  | _ => 1
def TD.bulks : List TD → Nat
  | [] => 0
  | d :: l => d.bulk + TD.bulks l
end
theorem TD.bulk_pos (d : TD) : 1 ≤ d.bulk := by cases d <;> simp [TD.bulk]
theorem TD.bulks_len : ∀ (l : List TD), l.length ≤ TD.bulks l
  | [] => by simp
  | d :: l => by have := d.bulk_pos; have := TD.bulks_len l; simp [TD.bulks]; omega
theorem TD.bulks_mem {d : TD} : ∀ {l : List TD}, d ∈ l → d.bulk ≤ TD.bulks l
  | x :: l, h => by
    rcases List.mem_cons.1 h with rfl | h
    · simp [TD.bulks]
    · have := TD.bulks_mem h; simp [TD.bulks]; omega

mutual
def Fits : Shp → TD → Prop
  | .int k, .int k' n => k' = k ∧ (Lit.int k n).wf = true
  | .bool, .bool _ => True
  | .str, .str s => s.size ≤ maxLen
  | .sl s, .sl l => ∀ x ∈ l, Fits s x
  | .recd ss, .recd l => FitsL ss l
  | _, _ => False
def FitsL : List Shp → List TD → Prop
  | [], [] => True
  | s :: ss, d :: l => Fits s d ∧ FitsL ss l
  | _, _ => False
end

mutual
inductive AbsT (m : Mem) : TD → List Value → Prop
  | int (k : IntKind) (n : Int) : AbsT m (.int k n) [.int k n]
  | bool (b : Bool) : AbsT m (.bool b) [.bool b]
  | str (s : ByteArray) : AbsT m (.str s) [.string s]
  | sl (l : List TD) (v : Value) (cs : List Value) (z : Nat) (h : SlR m z v cs l.length) (he : l = [] → v = .slice none 0 0 ∨ v = .slice (some ⟨0, 0, some 0⟩) 0 0) (hb : ∀ b, blk v = some b → b < m.next) (k : AbsTs m l cs) : AbsT m (.sl l) [v]
  | recd (l : List TD) (cs : List Value) (k : AbsTs m l cs) : AbsT m (.recd l) cs
inductive AbsTs (m : Mem) : List TD → List Value → Prop
  | nil : AbsTs m [] []
  | cons (d : TD) (c : List Value) (l : List TD) (cs : List Value) (h : AbsT m d c) (k : AbsTs m l cs) : AbsTs m (d :: l) (c ++ cs)
end

def Grow (G : Loc) (m : Mem) (G' : Loc) (m' : Mem) : Prop := Loc.le G G' ∧ m.next ≤ m'.next ∧ ∀ i, i < m.next → m'.get i = m.get i
theorem Grow.refl (G : Loc) (m : Mem) : Grow G m G m := ⟨Loc.le_refl G, Nat.le_refl _, fun _ _ => rfl⟩
theorem Grow.trans {G G' G2 : Loc} {m m' m2 : Mem} (h : Grow G m G' m') (k : Grow G' m' G2 m2) : Grow G m G2 m2 :=
  ⟨Loc.le_trans h.1 k.1, Nat.le_trans h.2.1 k.2.1, fun i hi => by rw [k.2.2 i (Nat.lt_of_lt_of_le hi h.2.1), h.2.2 i hi]⟩

mutual
theorem AbsT.mono {m m' : Mem} (hn : m.next ≤ m'.next) (hk : ∀ i, i < m.next → m'.get i = m.get i) : ∀ {d : TD} {cs : List Value}, AbsT m d cs → AbsT m' d cs
  | _, _, .int k n => .int k n
  | _, _, .bool b => .bool b
  | _, _, .str s => .str s
  | _, _, .sl l v cs z h he hb k => .sl l v cs z (h.keep fun b e => hk b (hb b e)) he (fun b e => Nat.lt_of_lt_of_le (hb b e) hn) (AbsTs.mono hn hk k)
  | _, _, .recd l cs k => .recd l cs (AbsTs.mono hn hk k)
theorem AbsTs.mono {m m' : Mem} (hn : m.next ≤ m'.next) (hk : ∀ i, i < m.next → m'.get i = m.get i) : ∀ {l : List TD} {cs : List Value}, AbsTs m l cs → AbsTs m' l cs
  | _, _, .nil => .nil
  | _, _, .cons d c l cs h k => .cons d c l cs (AbsT.mono hn hk h) (AbsTs.mono hn hk k)
end

def offsOk (P : Program) : Nat → List Field → List Shp → Bool
  | _, [], [] => true
  | o, f :: fs, s :: ss => f.offset == o && P.cellsOf f.type == s.size && offsOk P (o + s.size) fs ss
  | _, _, _ => false
def shpOf (P : Program) : Nat → TypeId → Option Shp
  | 0, _ => none
  | n + 1, t => match P.underlying t with
    | some .bool => some .bool
    | some (.int k) => some (.int k)
    | some .string => some .str
    | some (.slice e) => match shpOf P n e with
      | some s => if P.cellsOf e = s.size ∧ 0 < s.size then some (.sl s) else none
      | none => none
    | some (.struct fs) => match fs.toList.mapM (fun f => shpOf P n f.type) with
      | some l => if offsOk P 0 fs.toList l = true ∧ P.cellsOf t = Shp.sizes l then some (.recd l) else none
      | none => none
    | _ => none

section
variable {P : Program} {w0 w : World} {G : Loc} {m : Mem}

/-- What was there ahead of the call, and is looked at alone. -/
theorem St.look (h : St P w0 G m w) {B b S : Nat} {cs : List Value} (hB : B < w0.heap.size) (hc : ∀ (j : Nat) (v : Value), cs[j]? = some v → ∃ v', w0.cell? ⟨B, b + j, none⟩ = some v' ∧ VR G v v') :
    Loc.le G (fun i => if i = m.next then some (B, b, S) else G i) ∧ St P w0 (fun i => if i = m.next then some (B, b, S) else G i) (m.push (.ro cs)) w := by
  have hle : Loc.le G (fun i => if i = m.next then some (B, b, S) else G i) := by
    intro i x hx
    have := h.dom i x hx
    show (if i = m.next then some (B, b, S) else G i) = some x
    rw [if_neg (by omega)]; exact hx
  refine ⟨hle, ⟨h.below, ?_, ?_, ?_, ?_, ?_, ?_⟩⟩
  · intro i x hx
    by_cases hi : i = m.next
    · subst hi; simp
    · simp only [hi, if_false] at hx
      have := h.dom i x hx
      simp; omega
  · intro i B2 b2 S2 hd hx
    by_cases hi : i = m.next
    · subst hi; simp at hx; rw [← hx.1]; exact Nat.lt_of_lt_of_le hB h.below.size
    · simp only [hi, if_false] at hx
      exact h.lim i B2 b2 S2 (by simpa only [Mem.push_get, hi, if_false] using hd) hx
  · intro i hd
    by_cases hi : i = m.next
    · subst hi
      refine ⟨B, b, S, by simp, ?_⟩
      simp only [Mem.push_same]
      refine ⟨hB, fun j v hj => ?_⟩
      obtain ⟨v', h1, h2⟩ := hc j v hj
      exact ⟨v', h1, h2.mono hle⟩
    · simp only [Mem.push_get, hi, if_false] at hd ⊢
      obtain ⟨B2, b2, S2, g2, r⟩ := h.ent i hd
      exact ⟨B2, b2, S2, g2, r.mono hle⟩
  · intro i j B2 x y hi hj gi gj
    by_cases h1 : i = m.next
    · subst h1; simp [Ent.mine] at hi
    · by_cases h2 : j = m.next
      · subst h2; simp [Ent.mine] at hj
      · simp only [Mem.push_get, h1, h2, if_false] at hi hj gi gj
        exact h.inj i j B2 x y hi hj gi gj
  · intro g hg
    obtain ⟨S', hS'⟩ := h.glob g hg
    exact ⟨S', hle _ _ hS'⟩
  · intro i cs1 e' B2 b2 S2 hi hx
    by_cases h1 : i = m.next
    · subst h1; simp at hi
    · simp only [Mem.push_get, h1, if_false] at hi hx
      exact h.ali i cs1 e' B2 b2 S2 hi hx
end
end Go.Proofs.YtgfkjldohilmkaaDoor.Ab
