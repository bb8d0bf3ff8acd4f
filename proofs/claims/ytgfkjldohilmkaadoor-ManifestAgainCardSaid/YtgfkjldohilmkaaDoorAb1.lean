/- The words of an abstract memory, how it lies in the real one, and the first facts on them. -/
import Derived.Orders
import Derived.Below
import Derived.Deep.LoopGhost
import Derived.Laws.IdiomCopy
import Derived.Laws.AppendOwn
set_option linter.unusedVariables false
set_option linter.unusedSimpArgs false
namespace Go.Proofs.YtgfkjldohilmkaaDoor.Ab
open Go Go.RowKit

/-- Where an abstract block lies: the real block, from which cell on, and how many cells that block has. -/
abbrev Loc := Nat → Option (Nat × Nat × Nat)
def Loc.le (G G' : Loc) : Prop := ∀ i x, G i = some x → G' i = some x
theorem Loc.le_refl (G : Loc) : Loc.le G G := fun _ _ h => h
theorem Loc.le_trans {A B C : Loc} (h : Loc.le A B) (k : Loc.le B C) : Loc.le A C := fun i x e => k i x (h i x e)

mutual
/-- An abstract value, and the real one that it stands for. -/
inductive VR (G : Loc) : Value → Value → Prop
  | bool (b : Bool) : VR G (.bool b) (.bool b)
  | int (k : IntKind) (n : Int) : VR G (.int k n) (.int k n)
  | float (k : FloatKind) (n : Nat) : VR G (.float k n) (.float k n)
  | complex (k : FloatKind) (n m : Nat) : VR G (.complex k n m) (.complex k n m)
  | str (s : ByteArray) : VR G (.string s) (.string s)
  | nilp : VR G (.pointer none) (.pointer none)
  | ptr (i o B b S : Nat) (h : G i = some (B, b, S)) : VR G (.pointer (some ⟨i, o, none⟩)) (.pointer (some ⟨B, b + o, none⟩))
  | nils : VR G (.slice none 0 0) (.slice none 0 0)
  | sl (i o B b S n c z : Nat) (h : G i = some (B, b, S)) (hn : n ≤ c) (hc : c ≤ maxLen) (hS : b + o + c * z ≤ S) : VR G (.slice (some ⟨i, o, none⟩) n z) (.slice (some ⟨B, b + o, none⟩) n c)
  | empty (a : Addr) (c : Nat) (hc : c ≤ maxLen) : VR G (.slice (some ⟨0, 0, some 0⟩) 0 0) (.slice (some a) 0 c)
  | nilm : VR G (.map none) (.map none)
  | map (i B S : Nat) (h : G i = some (B, 0, S)) : VR G (.map (some i)) (.map (some B))
  | nilf : VR G .nilFunc .nilFunc
  | nili : VR G .nilIface .nilIface
  | func (fn : Fn) (f c f' c' : List Value) (h : VRs G f f') (k : VRs G c c') : VR G (.func fn ⟨f⟩ ⟨c⟩) (.func fn ⟨f'⟩ ⟨c'⟩)
  | iface (t : TypeId) (v v' : Value) (h : VR G v v') : VR G (.iface t v) (.iface t v')
  | agg (c c' : List Value) (h : VRs G c c') : VR G (.agg ⟨c⟩) (.agg ⟨c'⟩)
  | tuple (c c' : List Value) (h : VRs G c c') : VR G (.tuple ⟨c⟩) (.tuple ⟨c'⟩)
inductive VRs (G : Loc) : List Value → List Value → Prop
  | nil : VRs G [] []
  | cons (v v' : Value) (l l' : List Value) (h : VR G v v') (k : VRs G l l') : VRs G (v :: l) (v' :: l')
end

theorem VR.undef (G : Loc) : VR G undef undef := .tuple [] [] .nil

mutual
theorem VR.mono {G G' : Loc} (hg : Loc.le G G') : ∀ {v v' : Value}, VR G v v' → VR G' v v'
  | _, _, .bool b => .bool b
  | _, _, .int k n => .int k n
  | _, _, .float k n => .float k n
  | _, _, .complex k n m => .complex k n m
  | _, _, .str s => .str s
  | _, _, .nilp => .nilp
  | _, _, .ptr i o B b S h => .ptr i o B b S (hg _ _ h)
  | _, _, .nils => .nils
  | _, _, .sl i o B b S n c z h hn hc hS => .sl i o B b S n c z (hg _ _ h) hn hc hS
  | _, _, .empty a c hc => .empty a c hc
  | _, _, .nilm => .nilm
  | _, _, .map i B S h => .map i B S (hg _ _ h)
  | _, _, .nilf => .nilf
  | _, _, .nili => .nili
  | _, _, .func fn f c f' c' h k => .func fn f c f' c' (VRs.mono hg h) (VRs.mono hg k)
  | _, _, .iface t v v' h => .iface t v v' (VR.mono hg h)
  | _, _, .agg c c' h => .agg c c' (VRs.mono hg h)
  | _, _, .tuple c c' h => .tuple c c' (VRs.mono hg h)
theorem VRs.mono {G G' : Loc} (hg : Loc.le G G') : ∀ {l l' : List Value}, VRs G l l' → VRs G' l l'
  | _, _, .nil => .nil
  | _, _, .cons v v' l l' h k => .cons v v' l l' (VR.mono hg h) (VRs.mono hg k)
end

theorem VRs.length {G : Loc} : ∀ {l l' : List Value}, VRs G l l' → l'.length = l.length
  | _, _, .nil => rfl
  | _, _, .cons _ _ _ _ _ k => by simp [VRs.length k]
theorem VRs.get {G : Loc} : ∀ {l l' : List Value}, VRs G l l' → ∀ (j : Nat) (v : Value), l[j]? = some v → ∃ v', l'[j]? = some v' ∧ VR G v v'
  | _, _, .nil, j, v, h => by simp at h
  | _, _, .cons v v' l l' h k, 0, u, hu => by simp at hu; subst hu; exact ⟨v', by simp, h⟩
  | _, _, .cons v v' l l' h k, j + 1, u, hu => by
    simp only [List.getElem?_cons_succ] at hu ⊢
    exact VRs.get k j u hu
theorem VRs.append {G : Loc} : ∀ {l l' m m' : List Value}, VRs G l l' → VRs G m m' → VRs G (l ++ m) (l' ++ m')
  | _, _, _, _, .nil, k => k
  | _, _, _, _, .cons v v' l l' h k, h2 => .cons _ _ _ _ h (VRs.append k h2)
theorem VRs.of_get {G : Loc} : ∀ (l l' : List Value), l'.length = l.length → (∀ (j : Nat) (v : Value), l[j]? = some v → ∃ v', l'[j]? = some v' ∧ VR G v v') → VRs G l l'
  | [], [], _, _ => .nil
  | [], _ :: _, h, _ => by simp at h
  | _ :: _, [], h, _ => by simp at h
  | v :: l, v' :: l', h, hg => by
    obtain ⟨u, hu, hr⟩ := hg 0 v (by simp)
    simp at hu
    subst hu
    refine .cons _ _ _ _ hr (VRs.of_get l l' (by simpa using h) fun j x hx => ?_)
    obtain ⟨u, hu, hr⟩ := hg (j + 1) x (by simpa using hx)
    exact ⟨u, by simpa using hu, hr⟩
theorem VRs.take {G : Loc} {l l' : List Value} (h : VRs G l l') (n : Nat) : VRs G (l.take n) (l'.take n) := by
  refine VRs.of_get _ _ (by simp [h.length]) fun j v hj => ?_
  rw [List.getElem?_take] at hj ⊢
  split at hj
  · rename_i hlt
    obtain ⟨v', h1, h2⟩ := h.get j v hj
    exact ⟨v', by simpa [hlt] using h1, h2⟩
  · cases hj
theorem VRs.drop {G : Loc} {l l' : List Value} (h : VRs G l l') (n : Nat) : VRs G (l.drop n) (l'.drop n) := by
  refine VRs.of_get _ _ (by simp [h.length]) fun j v hj => ?_
  rw [List.getElem?_drop] at hj ⊢
  exact h.get _ v hj
theorem VRs.set {G : Loc} {l l' : List Value} (h : VRs G l l') (n : Nat) {v v' : Value} (hv : VR G v v') : VRs G (l.set n v) (l'.set n v') := by
  refine VRs.of_get _ _ (by simp [h.length]) fun j u hj => ?_
  rw [List.getElem?_set] at hj ⊢
  split at hj
  · rename_i e
    subst e
    split at hj
    · rename_i hlt
      simp at hj
      subst hj
      exact ⟨v', by simp [h.length, hlt], hv⟩
    · cases hj
  · rename_i e
    obtain ⟨u', h1, h2⟩ := h.get j u hj
    exact ⟨u', by simp [e, h1], h2⟩

/-- A value without an address: it stands for itself. -/
def flatV : Value → Bool
  | .bool _ | .int _ _ | .float _ _ | .complex _ _ _ | .string _ | .pointer none | .slice none 0 0 | .map none | .nilFunc | .nilIface => true
  | _ => false
def plainV : Nat → Value → Bool
  | 0, v => flatV v
  | d + 1, v => match v with
    | .func _ f c => f.toList.all (plainV d) && c.toList.all (plainV d)
    | .iface _ v => plainV d v
    | .agg c => c.toList.all (plainV d)
    | .tuple c => c.toList.all (plainV d)
    | v => flatV v

theorem VRs.refl_of {G : Loc} : ∀ (l : List Value), (∀ v ∈ l, VR G v v) → VRs G l l
  | [], _ => .nil
  | v :: l, h => .cons _ _ _ _ (h v (by simp)) (VRs.refl_of l fun u hu => h u (by simp [hu]))

theorem VR.flat {G : Loc} (v : Value) (h : flatV v = true) : VR G v v := by
  unfold flatV at h
  split at h <;> first | (constructor; done) | cases h

theorem VR.plain {G : Loc} : ∀ (d : Nat) (v : Value), plainV d v = true → VR G v v := by
  intro d
  induction d with
  | zero => exact fun v h => VR.flat v h
  | succ d ih =>
    intro v h
    unfold plainV at h
    split at h
    · rename_i f c
      simp only [Bool.and_eq_true, List.all_eq_true] at h
      exact .func _ f.toList c.toList _ _ (VRs.refl_of _ fun v hv => ih v (h.1 v hv)) (VRs.refl_of _ fun v hv => ih v (h.2 v hv))
    · exact .iface _ _ _ (ih _ h)
    · rename_i c
      simp only [List.all_eq_true] at h
      exact .agg c.toList _ (VRs.refl_of _ fun v hv => ih v (h v hv))
    · rename_i c
      simp only [List.all_eq_true] at h
      exact .tuple c.toList _ (VRs.refl_of _ fun v hv => ih v (h v hv))
    · exact VR.flat _ h

/-- What is in an abstract block. -/
inductive Ent where
  | own (cells : List Value) (e : TypeId)
  | ro (cells : List Value)
  | map (es : List MapEntry) (clock : Nat)
  | siter (s : ByteArray) (pos : Nat)
  | miter (m : Option Nat) (since : Nat) (seen : List Nat) (stepped : Nat)
  | dead

/-- The abstract memory. -/
structure Mem where
  next : Nat
  get : Nat → Ent

def Mem.set (m : Mem) (i : Nat) (e : Ent) : Mem := { m with get := fun k => if k = i then e else m.get k }
def Mem.push (m : Mem) (e : Ent) : Mem := { next := m.next + 1, get := fun k => if k = m.next then e else m.get k }

@[simp] theorem Mem.set_next (m : Mem) (i : Nat) (e : Ent) : (m.set i e).next = m.next := rfl
@[simp] theorem Mem.push_next (m : Mem) (e : Ent) : (m.push e).next = m.next + 1 := rfl
theorem Mem.set_get (m : Mem) (i : Nat) (e : Ent) (k : Nat) : (m.set i e).get k = if k = i then e else m.get k := rfl
theorem Mem.push_get (m : Mem) (e : Ent) (k : Nat) : (m.push e).get k = if k = m.next then e else m.get k := rfl
@[simp] theorem Mem.set_same (m : Mem) (i : Nat) (e : Ent) : (m.set i e).get i = e := by simp [Mem.set_get]
@[simp] theorem Mem.push_same (m : Mem) (e : Ent) : (m.push e).get m.next = e := by simp [Mem.push_get]
theorem Mem.set_other (m : Mem) {i k : Nat} (e : Ent) (h : k ≠ i) : (m.set i e).get k = m.get k := by simp [Mem.set_get, h]
theorem Mem.push_old (m : Mem) {k : Nat} (e : Ent) (h : k < m.next) : (m.push e).get k = m.get k := by simp [Mem.push_get, Nat.ne_of_lt h]

/-- What is laid out for the call's own. -/
def Ent.mine : Ent → Bool
  | .ro _ | .dead => false
  | _ => true

def openRow (n : Nat) (fz : Nat × Nat) : Prop := ∀ o, o < n → ¬ (fz.1 ≤ o ∧ o < fz.2)

/-- How an entry lies in the real memory: 'w0' is the world at the first call's beginning. -/
def ER (w0 w : World) (G : Loc) (B b S : Nat) : Ent → Prop
  | .own cs e => w0.heap.size ≤ B ∧ ∃ c fz, w.heap[B]? = some (.cells c e fz) ∧ c.size = S ∧ openRow c.size fz ∧ ∀ (j : Nat) (v : Value), cs[j]? = some v → ∃ v', c[b + j]? = some v' ∧ VR G v v'
  | .ro cs => B < w0.heap.size ∧ ∀ (j : Nat) (v : Value), cs[j]? = some v → ∃ v', w0.cell? ⟨B, b + j, none⟩ = some v' ∧ VR G v v'
  | .map es clock => w0.heap.size ≤ B ∧ b = 0 ∧ ∃ es' : List MapEntry, w.heap[B]? = some (.map es'.toArray clock) ∧ es'.map (·.born) = es.map (·.born) ∧ VRs G (es.map (·.key)) (es'.map (·.key)) ∧ VRs G (es.map (·.val)) (es'.map (·.val))
  | .siter s pos => w0.heap.size ≤ B ∧ b = 0 ∧ w.heap[B]? = some (.stringIter s pos)
  | .miter m since seen stepped => w0.heap.size ≤ B ∧ b = 0 ∧ ∃ r, w.heap[B]? = some (.mapIter r since seen.toArray stepped) ∧ VR G (.map m) (.map r)
  | .dead => True

theorem ER.mono {w0 w : World} {G G' : Loc} {B b S : Nat} {e : Ent} (hg : Loc.le G G') (h : ER w0 w G B b S e) : ER w0 w G' B b S e := by
  cases e with
  | own cs e =>
    obtain ⟨h0, c, fz, h1, hS, h2, h3⟩ := h
    exact ⟨h0, c, fz, h1, hS, h2, fun j v hj => let ⟨v', a, r⟩ := h3 j v hj; ⟨v', a, r.mono hg⟩⟩
  | ro cs => exact ⟨h.1, fun j v hj => let ⟨v', a, r⟩ := h.2 j v hj; ⟨v', a, r.mono hg⟩⟩
  | map es clock =>
    obtain ⟨h0, hb, es', h1, h2, h3, h4⟩ := h
    exact ⟨h0, hb, es', h1, h2, h3.mono hg, h4.mono hg⟩
  | siter s pos => exact h
  | miter m since seen stepped =>
    obtain ⟨h0, hb, r, h1, h2⟩ := h
    exact ⟨h0, hb, r, h1, h2.mono hg⟩
  | dead => trivial

theorem Ent.live {e : Ent} (h : e.mine = true) : e ≠ .dead := by rintro rfl; cases h

/-- The abstract memory m lies in the world w (by G), which is as 'w0' was but for what is the call's own. -/
structure St (P : Program) (w0 : World) (G : Loc) (m : Mem) (w : World) : Prop where
  below : Below w0.heap.size w0 w
  dom : ∀ i x, G i = some x → i < m.next
  lim : ∀ i B b S, m.get i ≠ .dead → G i = some (B, b, S) → B < w.heap.size
  ent : ∀ i, m.get i ≠ .dead → ∃ B b S, G i = some (B, b, S) ∧ ER w0 w G B b S (m.get i)
  inj : ∀ i j B x y, (m.get i).mine = true → (m.get j).mine = true → G i = some (B, x) → G j = some (B, y) → i = j
  glob : ∀ g, g < P.globals.size → ∃ S, G g = some (g, 0, S)
  ali : ∀ i cs e B b S, m.get i = .own cs e → G i = some (B, b, S) → b % P.cellsOf e = 0

theorem ER.keep {w0 w w' : World} {G : Loc} {B b S : Nat} {e : Ent} (h : ER w0 w G B b S e) (hk : e.mine = true → w'.heap[B]? = w.heap[B]?) : ER w0 w' G B b S e := by
  cases e with
  | own cs e =>
    obtain ⟨h0, c, fz, h1, h2⟩ := h
    exact ⟨h0, c, fz, by rw [hk rfl]; exact h1, h2⟩
  | ro cs => exact h
  | map es clock =>
    obtain ⟨h0, hb, es', h1, h2⟩ := h
    exact ⟨h0, hb, es', by rw [hk rfl]; exact h1, h2⟩
  | siter s pos => exact ⟨h.1, h.2.1, by rw [hk rfl]; exact h.2.2⟩
  | miter m since seen stepped =>
    obtain ⟨h0, hb, r, h1, h2⟩ := h
    exact ⟨h0, hb, r, by rw [hk rfl]; exact h1, h2⟩
  | dead => trivial

theorem ER.size {w0 w : World} {G : Loc} {B b S : Nat} {e : Ent} (h : ER w0 w G B b S e) (hm : e.mine = true) : w0.heap.size ≤ B := by
  cases e <;> first | exact h.1 | cases hm

/-- The world draws: nothing changes. -/
theorem St.same {P : Program} {w0 w w' : World} {G : Loc} {m : Mem} (h : St P w0 G m w) (hh : w'.heap = w.heap) (ho : w'.os = w.os) (ht : w'.tape = w.tape) (hu : w'.output = w.output) : St P w0 G m w' where
  below := ⟨by rw [ho, h.below.os], by rw [ht, h.below.tape], by rw [hu, h.below.output], by rw [hh]; exact h.below.size, fun k hk => by rw [hh]; exact h.below.block k hk⟩
  dom := h.dom
  lim := by rw [hh]; exact h.lim
  ent := fun i hi => let ⟨B, b, S, g, r⟩ := h.ent i hi; ⟨B, b, S, g, r.keep fun _ => by rw [hh]⟩
  inj := h.inj
  glob := h.glob
  ali := h.ali

/-- A new block. -/
theorem St.alloc {P : Program} {w0 w : World} {G : Loc} {m : Mem} (h : St P w0 G m w) (o : Obj) (e : Ent) (S : Nat)
    (hE : ER w0 (w.alloc o) (fun i => if i = m.next then some (w.heap.size, 0, S) else G i) w.heap.size 0 S e) :
    Loc.le G (fun i => if i = m.next then some (w.heap.size, 0, S) else G i) ∧ St P w0 (fun i => if i = m.next then some (w.heap.size, 0, S) else G i) (m.push e) (w.alloc o) := by
  have hle : Loc.le G (fun i => if i = m.next then some (w.heap.size, 0, S) else G i) := by
    intro i x hx
    have := h.dom i x hx
    show (if i = m.next then some (w.heap.size, 0, S) else G i) = some x
    rw [if_neg (by omega)]; exact hx
  refine ⟨hle, ?_⟩
  refine ⟨h.below.alloc h.below.size o, ?_, ?_, ?_, ?_, ?_, ?_⟩
  · intro i x hx
    by_cases hi : i = m.next
    · subst hi; simp
    · simp only [hi, if_false] at hx
      have := h.dom i x hx
      simp; omega
  · intro i B b S' hd hx
    by_cases hi : i = m.next
    · subst hi
      simp at hx
      simp [hx.1.symm]
    · simp only [hi, if_false] at hx
      have := h.lim i B b S' (by simpa only [Mem.push_get, hi, if_false] using hd) hx
      simp; omega
  · intro i hd
    by_cases hi : i = m.next
    · subst hi
      exact ⟨w.heap.size, 0, S, by simp, by simpa using hE⟩
    · simp only [Mem.push_get, hi, if_false] at hd ⊢
      obtain ⟨B, b, S', hg, hr⟩ := h.ent i hd
      refine ⟨B, b, S', hg, (hr.keep fun _ => ?_).mono hle⟩
      exact Below.heap_alloc w o B (h.lim _ _ _ _ hd hg)
  · intro i j B b c hi hj gi gj
    by_cases h1 : i = m.next <;> by_cases h2 : j = m.next
    · rw [h1, h2]
    · simp only [h1, if_true, h2, if_false, Option.some.injEq, Prod.mk.injEq] at gi gj
      obtain ⟨c1, c2⟩ := c
      have := h.lim j B c1 c2 (Ent.live (by simpa only [Mem.push_get, h2, if_false] using hj)) gj
      omega
    · simp only [h1, if_false, h2, if_true, Option.some.injEq, Prod.mk.injEq] at gi gj
      obtain ⟨b1, b2⟩ := b
      have := h.lim i B b1 b2 (Ent.live (by simpa only [Mem.push_get, h1, if_false] using hi)) gi
      omega
    · simp only [Mem.push_get, h1, h2, if_false] at hi hj gi gj
      exact h.inj i j B b c hi hj gi gj
  · intro g hg
    obtain ⟨S', hS⟩ := h.glob g hg
    exact ⟨S', hle _ _ hS⟩
  · intro i cs e' B b S' hi hg
    by_cases h1 : i = m.next
    · simp only [h1, if_true, Option.some.injEq, Prod.mk.injEq] at hg
      rw [← hg.2.1]; simp
    · simp only [Mem.push_get, h1, if_false] at hi hg
      exact h.ali i cs e' B b S' hi hg

/-- An own block of the call's is written: nothing else has changed. -/
theorem St.write {P : Program} {w0 w w' : World} {G : Loc} {m : Mem} (h : St P w0 G m w) {i B b S : Nat} {e : Ent} (hm : (m.get i).mine = true) (hg : G i = some (B, b, S))
    (ho : w'.os = w.os) (ht : w'.tape = w.tape) (hu : w'.output = w.output) (hs : w'.heap.size = w.heap.size) (hb : ∀ k, k ≠ B → w'.heap[k]? = w.heap[k]?)
    (hE : ER w0 w' G B b S e) (hal : ∀ cs e', e = .own cs e' → ∃ cs0, m.get i = .own cs0 e') : St P w0 G (m.set i e) w' := by
  have hB : w0.heap.size ≤ B := by
    obtain ⟨B', b', S', g', r⟩ := h.ent i (by intro e; rw [e] at hm; cases hm)
    rw [hg] at g'
    cases g'
    exact r.size hm
  refine ⟨⟨by rw [ho, h.below.os], by rw [ht, h.below.tape], by rw [hu, h.below.output], by rw [hs]; exact h.below.size, fun k hk => by rw [hb k (by omega)]; exact h.below.block k hk⟩, h.dom, fun k B2 b2 S2 hd hx => by
    rw [hs]
    by_cases hk : k = i
    · subst hk; exact h.lim k B2 b2 S2 (Ent.live hm) hx
    · exact h.lim k B2 b2 S2 (by simpa only [Mem.set_get, hk, if_false] using hd) hx, ?_, ?_, h.glob, fun k cs e' B2 b2 S2 hk hx => by
    by_cases h1 : k = i
    · subst h1
      simp only [Mem.set_same] at hk
      obtain ⟨cs0, h0⟩ := hal cs e' hk
      exact h.ali _ _ _ _ _ _ h0 hx
    · exact h.ali k cs e' B2 b2 S2 (by simpa only [Mem.set_get, h1, if_false] using hk) hx⟩
  · intro k hd
    by_cases hk : k = i
    · subst hk
      exact ⟨B, b, S, hg, by simpa using hE⟩
    · simp only [Mem.set_get, hk, if_false] at hd ⊢
      obtain ⟨B', b', S', g', r⟩ := h.ent k hd
      refine ⟨B', b', S', g', r.keep fun hm' => hb _ fun e => ?_⟩
      subst e
      exact hk (h.inj k i _ _ _ hm' hm g' hg)
  · intro k j B' b' c hk hj gk gj
    have key : ∀ x, ((m.set i e).get x).mine = true → (m.get x).mine = true := by
      intro x hx
      by_cases e' : x = i
      · subst e'; exact hm
      · simpa only [Mem.set_get, e', if_false] using hx
    exact h.inj k j B' b' c (key k hk) (key j hj) gk gj

/-- An own block is given up. -/
theorem St.kill {P : Program} {w0 w : World} {G : Loc} {m : Mem} (h : St P w0 G m w) (i : Nat) : St P w0 G (m.set i .dead) w := by
  refine ⟨h.below, h.dom, fun k B2 b2 S2 hd hx => by
    by_cases hk : k = i
    · subst hk; simp at hd
    · exact h.lim k B2 b2 S2 (by simpa only [Mem.set_get, hk, if_false] using hd) hx, ?_, ?_, h.glob, fun k cs e' B2 b2 S2 hk hx => by
    by_cases h1 : k = i
    · subst h1; simp at hk
    · exact h.ali k cs e' B2 b2 S2 (by simpa only [Mem.set_get, h1, if_false] using hk) hx⟩
  · intro k hd
    by_cases hk : k = i
    · subst hk; simp at hd
    · simp only [Mem.set_get, hk, if_false] at hd ⊢
      exact h.ent k hd
  · intro k j B b c hk hj gk gj
    have key : ∀ x, ((m.set i .dead).get x).mine = true → (m.get x).mine = true := by
      intro x hx
      by_cases e' : x = i
      · subst e'; simp [Ent.mine] at hx
      · simpa only [Mem.set_get, e', if_false] using hx
    exact h.inj k j B b c (key k hk) (key j hj) gk gj

end Go.Proofs.YtgfkjldohilmkaaDoor.Ab
