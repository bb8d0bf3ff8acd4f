/- Parts of a proof, put together: The words of an abstract memory, how it lies in the real one, and the first facts on them. -/
import Derived.Orders
import Derived.Below
import Derived.Deep.LoopGhost
import Derived.Laws.IdiomCopy
import Derived.Laws.AppendOwn
import Derived.WalkKit
import Derived.LaidEql
import Derived.Laws.BytesString
import Derived.Laws.StructEq
import Derived.Laws.Tables
import Derived.WalkLawsBesides
import Derived.Lib.Builder
import Derived.Lib.UnsafeStr
import Derived.WideLaws
import Derived.Laws.MakeOwn
import Derived.Laws.IdiomStrings
import Derived.Maps.RangeRun
import Derived.ScopeJumps
namespace Go.Proofs.YtccjlggpiliilaaGreatDoor
theorem gZ0 {α : Type _} {a : α} {l : List α} : (a :: l)[0]? = some a := rfl
theorem gZ1 {α : Type _} {a : α} {l : List α} {i : Nat} : (a :: l)[i + 1]? = l[i]? := rfl
end Go.Proofs.YtccjlggpiliilaaGreatDoor

set_option linter.unusedVariables false
set_option linter.unusedSimpArgs false
namespace Go.Proofs.YtccjlggpiliilaaGreatDoor.Ab
open Go Go.RowKit
abbrev Loc := Nat → Option (Nat × Nat × Nat)
def Loc.le (G G' : Loc) : Prop := ∀ i x,G i = some x → G' i = some x
theorem Loc.le_refl (G : Loc) : Loc.le G G := fun _ _ h => h
theorem Loc.le_trans {A B C : Loc} (h : Loc.le A B) (k : Loc.le B C) : Loc.le A C := fun i x e => k i x (h i x e)
mutual
inductive VR (G : Loc) : Value → Value → Prop
  | bool (b : Bool) : VR G (.bool b) (.bool b)
  | int (k : IntKind) (n : Int) : VR G (.int k n) (.int k n)
  | float (k : FloatKind) (n : Nat) : VR G (.float k n) (.float k n)
  | complex (k : FloatKind) (n m : Nat) : VR G (.complex k n m) (.complex k n m)
  | str (s : ByteArray) : VR G (.string s) (.string s)
  | nilp : VR G (.pointer none) (.pointer none)
  | ptr (i o B b S : Nat) (h : G i = some (B,b,S)) : VR G (.pointer (some ⟨i,o,none⟩)) (.pointer (some ⟨B,b + o,none⟩))
  | nils : VR G (.slice none 0 0) (.slice none 0 0)
  | sl (i o B b S n c z : Nat) (h : G i = some (B,b,S)) (hn : n ≤ c) (hc : c ≤ maxLen) (hS : b + o + c * z ≤ S) : VR G (.slice (some ⟨i,o,none⟩) n z) (.slice (some ⟨B,b + o,none⟩) n c)
  | empty (a : Addr) (c : Nat) (hc : c ≤ maxLen) : VR G (.slice (some ⟨0,0,some 0⟩) 0 0) (.slice (some a) 0 c)
  | nilm : VR G (.map none) (.map none)
  | map (i B S : Nat) (h : G i = some (B,0,S)) : VR G (.map (some i)) (.map (some B))
  | nilf : VR G .nilFunc .nilFunc
  | nili : VR G .nilIface .nilIface
  | func (fn : Fn) (f c f' c' : List Value) (h : VRs G f f') (k : VRs G c c') : VR G (.func fn ⟨f⟩ ⟨c⟩) (.func fn ⟨f'⟩ ⟨c'⟩)
  | iface (t : TypeId) (v v' : Value) (h : VR G v v') : VR G (.iface t v) (.iface t v')
  | agg (c c' : List Value) (h : VRs G c c') : VR G (.agg ⟨c⟩) (.agg ⟨c'⟩)
  | tuple (c c' : List Value) (h : VRs G c c') : VR G (.tuple ⟨c⟩) (.tuple ⟨c'⟩)
inductive VRs (G : Loc) : List Value → List Value → Prop
  | nil : VRs G [] []
  | cons (v v' : Value) (l l' : List Value) (h : VR G v v') (k : VRs G l l') : VRs G (v :: l) (v' :: l')
end
theorem VR.undef (G : Loc) : VR G undef undef := .tuple [] [] .nil
mutual
theorem VR.mono {G G' : Loc} (hg : Loc.le G G') : ∀ {v v' : Value},VR G v v' → VR G' v v'
  | _,_,.bool b => .bool b
  | _,_,.int k n => .int k n
  | _,_,.float k n => .float k n
  | _,_,.complex k n m => .complex k n m
  | _,_,.str s => .str s
  | _,_,.nilp => .nilp
  | _,_,.ptr i o B b S h => .ptr i o B b S (hg _ _ h)
  | _,_,.nils => .nils
  | _,_,.sl i o B b S n c z h hn hc hS => .sl i o B b S n c z (hg _ _ h) hn hc hS
  | _,_,.empty a c hc => .empty a c hc
  | _,_,.nilm => .nilm
  | _,_,.map i B S h => .map i B S (hg _ _ h)
  | _,_,.nilf => .nilf
  | _,_,.nili => .nili
  | _,_,.func fn f c f' c' h k => .func fn f c f' c' (VRs.mono hg h) (VRs.mono hg k)
  | _,_,.iface t v v' h => .iface t v v' (VR.mono hg h)
  | _,_,.agg c c' h => .agg c c' (VRs.mono hg h)
  | _,_,.tuple c c' h => .tuple c c' (VRs.mono hg h)
theorem VRs.mono {G G' : Loc} (hg : Loc.le G G') : ∀ {l l' : List Value},VRs G l l' → VRs G' l l'
  | _,_,.nil => .nil
  | _,_,.cons v v' l l' h k => .cons v v' l l' (VR.mono hg h) (VRs.mono hg k)
end
theorem VRs.length {G : Loc} : ∀ {l l' : List Value},VRs G l l' → l'.length = l.length
  | _,_,.nil => rfl
  | _,_,.cons _ _ _ _ _ k => by simp [VRs.length k]
theorem VRs.get {G : Loc} : ∀ {l l' : List Value},VRs G l l' → ∀ (j : Nat) (v : Value),l[j]? = some v → ∃ v',l'[j]? = some v' ∧ VR G v v'
  | _,_,.nil,j,v,h => by simp at h
  | _,_,.cons v v' l l' h k,0,u,hu => by simp at hu; subst hu; exact ⟨v',by simp,h⟩
  | _,_,.cons v v' l l' h k,j + 1,u,hu => by
    simp only [gZ1] at hu ⊢
    exact VRs.get k j u hu
theorem VRs.append {G : Loc} : ∀ {l l' m m' : List Value},VRs G l l' → VRs G m m' → VRs G (l ++ m) (l' ++ m')
  | _,_,_,_,.nil,k => k
  | _,_,_,_,.cons v v' l l' h k,h2 => .cons _ _ _ _ h (VRs.append k h2)
theorem VRs.of_get {G : Loc} : ∀ (l l' : List Value),l'.length = l.length → (∀ (j : Nat) (v : Value),l[j]? = some v → ∃ v',l'[j]? = some v' ∧ VR G v v') → VRs G l l'
  | [],[],_,_ => .nil
  | [],_ :: _,h,_ => by simp at h
  | _ :: _,[],h,_ => by simp at h
  | v :: l,v' :: l',h,hg => by
    obtain ⟨u,hu,hr⟩ := hg 0 v (by simp)
    simp at hu
    subst hu
    refine .cons _ _ _ _ hr (VRs.of_get l l' (by simpa using h) fun j x hx => ?_)
    obtain ⟨u,hu,hr⟩ := hg (j + 1) x (by simpa using hx)
    exact ⟨u,by simpa using hu,hr⟩
theorem VRs.take {G : Loc} {l l' : List Value} (h : VRs G l l') (n : Nat) : VRs G (l.take n) (l'.take n) := by
  refine VRs.of_get _ _ (by simp [h.length]) fun j v hj => ?_
  rw [List.getElem?_take] at hj ⊢
  split at hj
  · rename_i hlt
    obtain ⟨v',h1,h2⟩ := h.get j v hj
    exact ⟨v',by simpa [hlt] using h1,h2⟩
  · cases hj
theorem VRs.drop {G : Loc} {l l' : List Value} (h : VRs G l l') (n : Nat) : VRs G (l.drop n) (l'.drop n) := by
  refine VRs.of_get _ _ (by simp [h.length]) fun j v hj => ?_
  rw [List.getElem?_drop] at hj ⊢
  exact h.get _ v hj
theorem VRs.set {G : Loc} {l l' : List Value} (h : VRs G l l') (n : Nat) {v v' : Value} (hv : VR G v v') : VRs G (l.set n v) (l'.set n v') := by
  refine VRs.of_get _ _ (by simp [h.length]) fun j u hj => ?_
  rw [List.getElem?_set] at hj ⊢
  split at hj
  · rename_i e
    subst e
    split at hj
    · rename_i hlt
      simp at hj
      subst hj
      exact ⟨v',by simp [h.length,hlt],hv⟩
    · cases hj
  · rename_i e
    obtain ⟨u',h1,h2⟩ := h.get j u hj
    exact ⟨u',by simp [e,h1],h2⟩
def flatV : Value → Bool
  | .bool _ | .int _ _ | .float _ _ | .complex _ _ _ | .string _ | .pointer none | .slice none 0 0 | .map none | .nilFunc | .nilIface => true
  | _ => false
def plainV : Nat → Value → Bool
  | 0,v => flatV v
  | d + 1,v => match v with
    | .func _ f c => f.toList.all (plainV d) && c.toList.all (plainV d)
    | .iface _ v => plainV d v
    | .agg c => c.toList.all (plainV d)
    | .tuple c => c.toList.all (plainV d)
    | v => flatV v
theorem VRs.refl_of {G : Loc} : ∀ (l : List Value),(∀ v ∈ l,VR G v v) → VRs G l l
  | [],_ => .nil
  | v :: l,h => .cons _ _ _ _ (h v (by simp)) (VRs.refl_of l fun u hu => h u (by simp [hu]))
theorem VR.flat {G : Loc} (v : Value) (h : flatV v = true) : VR G v v := by
  unfold flatV at h
  split at h <;> first | (constructor; done) | cases h
theorem VR.plain {G : Loc} : ∀ (d : Nat) (v : Value),plainV d v = true → VR G v v := by
  intro d
  induction d with
  | zero => exact fun v h => VR.flat v h
  | succ d ih =>
    intro v h
    unfold plainV at h
    split at h
    · rename_i f c
      simp only [Bool.and_eq_true,List.all_eq_true] at h
      exact .func _ f.toList c.toList _ _ (VRs.refl_of _ fun v hv => ih v (h.1 v hv)) (VRs.refl_of _ fun v hv => ih v (h.2 v hv))
    · exact .iface _ _ _ (ih _ h)
    · rename_i c
      simp only [List.all_eq_true] at h
      exact .agg c.toList _ (VRs.refl_of _ fun v hv => ih v (h v hv))
    · rename_i c
      simp only [List.all_eq_true] at h
      exact .tuple c.toList _ (VRs.refl_of _ fun v hv => ih v (h v hv))
    · exact VR.flat _ h
inductive Ent where
  | own (cells : List Value) (e : TypeId)
  | ro (cells : List Value)
  | map (es : List MapEntry) (clock : Nat)
  | siter (s : ByteArray) (pos : Nat)
  | miter (m : Option Nat) (since : Nat) (seen : List Nat) (stepped : Nat)
  | dead
structure Mem where
  next : Nat
  get : Nat → Ent
def Mem.set (m : Mem) (i : Nat) (e : Ent) : Mem := { m with get := fun k => if k = i then e else m.get k }
def Mem.push (m : Mem) (e : Ent) : Mem := { next := m.next + 1,get := fun k => if k = m.next then e else m.get k }
@[simp] theorem Mem.set_next (m : Mem) (i : Nat) (e : Ent) : (m.set i e).next = m.next := rfl
@[simp] theorem Mem.push_next (m : Mem) (e : Ent) : (m.push e).next = m.next + 1 := rfl
theorem Mem.set_get (m : Mem) (i : Nat) (e : Ent) (k : Nat) : (m.set i e).get k = if k = i then e else m.get k := rfl
theorem Mem.push_get (m : Mem) (e : Ent) (k : Nat) : (m.push e).get k = if k = m.next then e else m.get k := rfl
@[simp] theorem Mem.set_same (m : Mem) (i : Nat) (e : Ent) : (m.set i e).get i = e := by simp [Mem.set_get]
@[simp] theorem Mem.push_same (m : Mem) (e : Ent) : (m.push e).get m.next = e := by simp [Mem.push_get]
theorem Mem.set_other (m : Mem) {i k : Nat} (e : Ent) (h : k ≠ i) : (m.set i e).get k = m.get k := by simp [Mem.set_get,h]
theorem Mem.push_old (m : Mem) {k : Nat} (e : Ent) (h : k < m.next) : (m.push e).get k = m.get k := by simp [Mem.push_get,Nat.ne_of_lt h]
def Ent.mine : Ent → Bool
  | .ro _ | .dead => false
  | _ => true
def openRow (n : Nat) (fz : Nat × Nat) : Prop := (∀ o,o < n → ¬ (fz.1 ≤ o ∧ o < fz.2)) ∧ fz.1 ≤ fz.2
def ER (w0 w : World) (G : Loc) (B b S : Nat) : Ent → Prop
  | .own cs e => w0.heap.size ≤ B ∧ ∃ c fz,w.heap[B]? = some (.cells c e fz) ∧ c.size = S ∧ openRow c.size fz ∧ ∀ (j : Nat) (v : Value),cs[j]? = some v → ∃ v',c[b + j]? = some v' ∧ VR G v v'
  | .ro cs => B < w0.heap.size ∧ ∀ (j : Nat) (v : Value),cs[j]? = some v → ∃ v',w0.cell? ⟨B,b + j,none⟩ = some v' ∧ VR G v v'
  | .map es clock => w0.heap.size ≤ B ∧ b = 0 ∧ ∃ es' : List MapEntry,w.heap[B]? = some (.map es'.toArray clock) ∧ es'.map (·.born) = es.map (·.born) ∧ VRs G (es.map (·.key)) (es'.map (·.key)) ∧ VRs G (es.map (·.val)) (es'.map (·.val))
  | .siter s pos => w0.heap.size ≤ B ∧ b = 0 ∧ w.heap[B]? = some (.stringIter s pos)
  | .miter m since seen stepped => w0.heap.size ≤ B ∧ b = 0 ∧ ∃ r,w.heap[B]? = some (.mapIter r since seen.toArray stepped) ∧ VR G (.map m) (.map r)
  | .dead => True
theorem ER.mono {w0 w : World} {G G' : Loc} {B b S : Nat} {e : Ent} (hg : Loc.le G G') (h : ER w0 w G B b S e) : ER w0 w G' B b S e := by
  cases e with
  | own cs e =>
    obtain ⟨h0,c,fz,h1,hS,h2,h3⟩ := h
    exact ⟨h0,c,fz,h1,hS,h2,fun j v hj => let ⟨v',a,r⟩ := h3 j v hj; ⟨v',a,r.mono hg⟩⟩
  | ro cs => exact ⟨h.1,fun j v hj => let ⟨v',a,r⟩ := h.2 j v hj; ⟨v',a,r.mono hg⟩⟩
  | map es clock =>
    obtain ⟨h0,hb,es',h1,h2,h3,h4⟩ := h
    exact ⟨h0,hb,es',h1,h2,h3.mono hg,h4.mono hg⟩
  | siter s pos => exact h
  | miter m since seen stepped =>
    obtain ⟨h0,hb,r,h1,h2⟩ := h
    exact ⟨h0,hb,r,h1,h2.mono hg⟩
  | dead => trivial
theorem Ent.live {e : Ent} (h : e.mine = true) : e ≠ .dead := by rintro rfl; cases h
structure St (P : Program) (w0 : World) (G : Loc) (m : Mem) (w : World) : Prop where
  below : Below w0.heap.size w0 w
  dom : ∀ i x,G i = some x → i < m.next
  lim : ∀ i B b S,m.get i ≠ .dead → G i = some (B,b,S) → B < w.heap.size
  ent : ∀ i,m.get i ≠ .dead → ∃ B b S,G i = some (B,b,S) ∧ ER w0 w G B b S (m.get i)
  inj : ∀ i j B x y,(m.get i).mine = true → (m.get j).mine = true → G i = some (B,x) → G j = some (B,y) → i = j
  glob : ∀ g,g < P.globals.size → ∃ S,G g = some (g,0,S)
  ali : ∀ i cs e B b S,m.get i = .own cs e → G i = some (B,b,S) → b % P.cellsOf e = 0
theorem ER.keep {w0 w w' : World} {G : Loc} {B b S : Nat} {e : Ent} (h : ER w0 w G B b S e) (hk : e.mine = true → w'.heap[B]? = w.heap[B]?) : ER w0 w' G B b S e := by
  cases e with
  | own cs e =>
    obtain ⟨h0,c,fz,h1,h2⟩ := h
    exact ⟨h0,c,fz,by rw [hk rfl]; exact h1,h2⟩
  | ro cs => exact h
  | map es clock =>
    obtain ⟨h0,hb,es',h1,h2⟩ := h
    exact ⟨h0,hb,es',by rw [hk rfl]; exact h1,h2⟩
  | siter s pos => exact ⟨h.1,h.2.1,by rw [hk rfl]; exact h.2.2⟩
  | miter m since seen stepped =>
    obtain ⟨h0,hb,r,h1,h2⟩ := h
    exact ⟨h0,hb,r,by rw [hk rfl]; exact h1,h2⟩
  | dead => trivial
theorem ER.size {w0 w : World} {G : Loc} {B b S : Nat} {e : Ent} (h : ER w0 w G B b S e) (hm : e.mine = true) : w0.heap.size ≤ B := by
  cases e <;> first | exact h.1 | cases hm
theorem St.same {P : Program} {w0 w w' : World} {G : Loc} {m : Mem} (h : St P w0 G m w) (hh : w'.heap = w.heap) (ho : w'.os = w.os) (ht : w'.tape = w.tape) (hu : w'.output = w.output) : St P w0 G m w' where
  below := ⟨by rw [ho,h.below.os],by rw [ht,h.below.tape],by rw [hu,h.below.output],by rw [hh]; exact h.below.size,fun k hk => by rw [hh]; exact h.below.block k hk⟩
  dom := h.dom
  lim := by rw [hh]; exact h.lim
  ent := fun i hi => let ⟨B,b,S,g,r⟩ := h.ent i hi; ⟨B,b,S,g,r.keep fun _ => by rw [hh]⟩
  inj := h.inj
  glob := h.glob
  ali := h.ali
theorem St.alloc {P : Program} {w0 w : World} {G : Loc} {m : Mem} (h : St P w0 G m w) (o : Obj) (e : Ent) (S : Nat)
    (hE : ER w0 (w.alloc o) (fun i => if i = m.next then some (w.heap.size,0,S) else G i) w.heap.size 0 S e) :
    Loc.le G (fun i => if i = m.next then some (w.heap.size,0,S) else G i) ∧ St P w0 (fun i => if i = m.next then some (w.heap.size,0,S) else G i) (m.push e) (w.alloc o) := by
  have hle : Loc.le G (fun i => if i = m.next then some (w.heap.size,0,S) else G i) := by
    intro i x hx
    have := h.dom i x hx
    show (if i = m.next then some (w.heap.size,0,S) else G i) = some x
    rw [if_neg (by omega)]; exact hx
  refine ⟨hle,?_⟩
  refine ⟨h.below.alloc h.below.size o,?_,?_,?_,?_,?_,?_⟩
  · intro i x hx
    by_cases hi : i = m.next
    · subst hi; simp
    · simp only [hi,if_false] at hx
      have := h.dom i x hx
      simp; omega
  · intro i B b S' hd hx
    by_cases hi : i = m.next
    · subst hi
      simp at hx
      simp [hx.1.symm]
    · simp only [hi,if_false] at hx
      have := h.lim i B b S' (by simpa only [Mem.push_get,hi,if_false] using hd) hx
      simp; omega
  · intro i hd
    by_cases hi : i = m.next
    · subst hi
      exact ⟨w.heap.size,0,S,by simp,by simpa using hE⟩
    · simp only [Mem.push_get,hi,if_false] at hd ⊢
      obtain ⟨B,b,S',hg,hr⟩ := h.ent i hd
      refine ⟨B,b,S',hg,(hr.keep fun _ => ?_).mono hle⟩
      exact Below.heap_alloc w o B (h.lim _ _ _ _ hd hg)
  · intro i j B b c hi hj gi gj
    by_cases h1 : i = m.next <;> by_cases h2 : j = m.next
    · rw [h1,h2]
    · simp only [h1,if_true,h2,if_false,Option.some.injEq,Prod.mk.injEq] at gi gj
      obtain ⟨c1,c2⟩ := c
      have := h.lim j B c1 c2 (Ent.live (by simpa only [Mem.push_get,h2,if_false] using hj)) gj
      omega
    · simp only [h1,if_false,h2,if_true,Option.some.injEq,Prod.mk.injEq] at gi gj
      obtain ⟨b1,b2⟩ := b
      have := h.lim i B b1 b2 (Ent.live (by simpa only [Mem.push_get,h1,if_false] using hi)) gi
      omega
    · simp only [Mem.push_get,h1,h2,if_false] at hi hj gi gj
      exact h.inj i j B b c hi hj gi gj
  · intro g hg
    obtain ⟨S',hS⟩ := h.glob g hg
    exact ⟨S',hle _ _ hS⟩
  · intro i cs e' B b S' hi hg
    by_cases h1 : i = m.next
    · simp only [h1,if_true,Option.some.injEq,Prod.mk.injEq] at hg
      rw [← hg.2.1]; simp
    · simp only [Mem.push_get,h1,if_false] at hi hg
      exact h.ali i cs e' B b S' hi hg
theorem St.write {P : Program} {w0 w w' : World} {G : Loc} {m : Mem} (h : St P w0 G m w) {i B b S : Nat} {e : Ent} (hm : (m.get i).mine = true) (hg : G i = some (B,b,S))
    (ho : w'.os = w.os) (ht : w'.tape = w.tape) (hu : w'.output = w.output) (hs : w'.heap.size = w.heap.size) (hb : ∀ k,k ≠ B → w'.heap[k]? = w.heap[k]?)
    (hE : ER w0 w' G B b S e) (hal : ∀ cs e',e = .own cs e' → ∃ cs0,m.get i = .own cs0 e') : St P w0 G (m.set i e) w' := by
  have hB : w0.heap.size ≤ B := by
    obtain ⟨B',b',S',g',r⟩ := h.ent i (by intro e; rw [e] at hm; cases hm)
    rw [hg] at g'
    cases g'
    exact r.size hm
  refine ⟨⟨by rw [ho,h.below.os],by rw [ht,h.below.tape],by rw [hu,h.below.output],by rw [hs]; exact h.below.size,fun k hk => by rw [hb k (by omega)]; exact h.below.block k hk⟩,h.dom,fun k B2 b2 S2 hd hx => by
    rw [hs]
    by_cases hk : k = i
    · subst hk; exact h.lim k B2 b2 S2 (Ent.live hm) hx
    · exact h.lim k B2 b2 S2 (by simpa only [Mem.set_get,hk,if_false] using hd) hx,?_,?_,h.glob,fun k cs e' B2 b2 S2 hk hx => by
    by_cases h1 : k = i
    · subst h1
      simp only [Mem.set_same] at hk
      obtain ⟨cs0,h0⟩ := hal cs e' hk
      exact h.ali _ _ _ _ _ _ h0 hx
    · exact h.ali k cs e' B2 b2 S2 (by simpa only [Mem.set_get,h1,if_false] using hk) hx⟩
  · intro k hd
    by_cases hk : k = i
    · subst hk
      exact ⟨B,b,S,hg,by simpa using hE⟩
    · simp only [Mem.set_get,hk,if_false] at hd ⊢
      obtain ⟨B',b',S',g',r⟩ := h.ent k hd
      refine ⟨B',b',S',g',r.keep fun hm' => hb _ fun e => ?_⟩
      subst e
      exact hk (h.inj k i _ _ _ hm' hm g' hg)
  · intro k j B' b' c hk hj gk gj
    have key : ∀ x,((m.set i e).get x).mine = true → (m.get x).mine = true := by
      intro x hx
      by_cases e' : x = i
      · subst e'; exact hm
      · simpa only [Mem.set_get,e',if_false] using hx
    exact h.inj k j B' b' c (key k hk) (key j hj) gk gj
theorem St.kill {P : Program} {w0 w : World} {G : Loc} {m : Mem} (h : St P w0 G m w) (i : Nat) : St P w0 G (m.set i .dead) w := by
  refine ⟨h.below,h.dom,fun k B2 b2 S2 hd hx => by
    by_cases hk : k = i
    · subst hk; simp at hd
    · exact h.lim k B2 b2 S2 (by simpa only [Mem.set_get,hk,if_false] using hd) hx,?_,?_,h.glob,fun k cs e' B2 b2 S2 hk hx => by
    by_cases h1 : k = i
    · subst h1; simp at hk
    · exact h.ali k cs e' B2 b2 S2 (by simpa only [Mem.set_get,h1,if_false] using hk) hx⟩
  · intro k hd
    by_cases hk : k = i
    · subst hk; simp at hd
    · simp only [Mem.set_get,hk,if_false] at hd ⊢
      exact h.ent k hd
  · intro k j B b c hk hj gk gj
    have key : ∀ x,((m.set i .dead).get x).mine = true → (m.get x).mine = true := by
      intro x hx
      by_cases e' : x = i
      · subst e'; simp [Ent.mine] at hx
      · simpa only [Mem.set_get,e',if_false] using hx
    exact h.inj k j B b c (key k hk) (key j hj) gk gj
end Go.Proofs.YtccjlggpiliilaaGreatDoor.Ab

set_option linter.unusedVariables false
set_option linter.unusedSimpArgs false
namespace Go.Proofs.YtccjlggpiliilaaGreatDoor.Ab
open Go Go.RowKit
abbrev Fr := Nat → Value
def upd (ts : Fr) (d : Nat) (v : Value) : Fr := fun k => if k = d then v else ts k
def updo (ts : Fr) (d : Option Nat) (v : Value) : Fr := match d with
  | some d => upd ts d v
  | none => ts
def ev (ts : Fr) : Operand → Value
  | .tmp t => ts t
  | .const v => v
  | .global g => .pointer (some ⟨g,0,none⟩)
  | .func f => .func (.func f) #[] #[]
def okX (P : Program) (N : Nat) : Operand → Bool
  | .tmp t => decide (t < N)
  | .const v => plainV 6 v
  | .global g => decide (g < P.globals.size)
  | .func _ => true
structure AR (G : Loc) (N : Nat) (ts : Fr) (a : Act) : Prop where
  size : a.tmps.size = N
  slots : ∀ t,t < N → VR G (ts t) (a.tmps.getD t undef)
  defers : a.defers = []
theorem AR.mono {G G' : Loc} {N : Nat} {ts : Fr} {a : Act} (h : AR G N ts a) (hg : Loc.le G G') : AR G' N ts a := ⟨h.size,fun t ht => (h.slots t ht).mono hg,h.defers⟩
theorem AR.put {G : Loc} {N : Nat} {ts : Fr} {a : Act} (h : AR G N ts a) (d : Option Nat) {v v' : Value} (hv : VR G v v') : AR G N (updo ts d v) (a.put d v') := by
  cases d with
  | none => exact h
  | some d =>
    refine ⟨by simp [Act.put,h.size],fun t ht => ?_,h.defers⟩
    by_cases e : t = d
    · subst e
      have : t < a.tmps.size := by rw [h.size]; exact ht
      simpa [updo,upd,Act.put,this] using hv
    · have := h.slots t ht
      simpa [updo,upd,e,Act.put,Array.getElem?_setIfInBounds_ne (Ne.symm e)] using this
theorem ev_VR {P : Program} {w0 w : World} {G : Loc} {N : Nat} {ts : Fr} {a : Act} {m : Mem} (h : AR G N ts a) (hs : St P w0 G m w) (x : Operand) (hx : okX P N x = true) : VR G (ev ts x) (a.eval x) := by
  cases x with
  | tmp t => simp only [okX,decide_eq_true_eq] at hx; exact h.slots t hx
  | const v => exact VR.plain 6 v hx
  | global g =>
    simp only [okX,decide_eq_true_eq] at hx
    obtain ⟨S,hS⟩ := hs.glob g hx
    have := VR.ptr (G := G) g 0 g 0 S hS
    simpa [ev,Act.eval] using this
  | func f => exact .func _ [] [] [] [] .nil .nil
def Ent.cells? : Ent → Option (List Value)
  | .own cs _ => some cs
  | .ro cs => some cs
  | _ => none
def Mem.cell (m : Mem) (i o : Nat) : Option Value := match (m.get i).cells? with
  | some cs => cs[o]?
  | none => none
def Mem.row (m : Mem) (i o n : Nat) : Option (List Value) := match (m.get i).cells? with
  | some cs => if o + n ≤ cs.length then some ((cs.drop o).take n) else none
  | none => none
theorem St.cell {P : Program} {w0 w : World} {G : Loc} {m : Mem} (h : St P w0 G m w) {i o B b S : Nat} {v : Value} (hg : G i = some (B,b,S)) (hc : m.cell i o = some v) : ∃ v',w.cell? ⟨B,b + o,none⟩ = some v' ∧ VR G v v' := by
  unfold Mem.cell at hc
  have hnd : m.get i ≠ .dead := by intro e; rw [e] at hc; simp [Ent.cells?] at hc
  obtain ⟨B',b',S',g',r⟩ := h.ent i hnd
  rw [hg] at g'
  cases g'
  cases he : m.get i with
  | own cs e =>
    rw [he] at hc r
    simp only [Ent.cells?] at hc
    obtain ⟨_,c,fz,h1,_,_,h3⟩ := r
    obtain ⟨v',hv',hr⟩ := h3 o v hc
    exact ⟨v',by simp [World.cell?,h1,hv'],hr⟩
  | ro cs =>
    rw [he] at hc r
    simp only [Ent.cells?] at hc
    obtain ⟨hB,h3⟩ := r
    obtain ⟨v',hv',hr⟩ := h3 o v hc
    exact ⟨v',by rw [h.below.cell (p := ⟨B,b + o,none⟩) hB]; exact hv',hr⟩
  | map es c => rw [he] at hc; simp [Ent.cells?] at hc
  | siter s p => rw [he] at hc; simp [Ent.cells?] at hc
  | miter m s x c => rw [he] at hc; simp [Ent.cells?] at hc
  | dead => exact absurd he hnd
theorem Mem.row_cell {m : Mem} {i o n : Nat} {cs : List Value} (h : m.row i o n = some cs) : cs.length = n ∧ ∀ (j : Nat) (v : Value),cs[j]? = some v → m.cell i (o + j) = some v := by
  unfold Mem.row at h
  cases hc : (m.get i).cells? with
  | none => simp [hc] at h
  | some l =>
    simp only [hc] at h
    split at h
    · rename_i hle
      simp at h
      subst h
      refine ⟨by simp; omega,fun j v hj => ?_⟩
      rw [List.getElem?_take] at hj
      split at hj
      · rw [List.getElem?_drop] at hj
        simp only [Mem.cell,hc]
        exact hj
      · cases hj
    · cases h
theorem St.row {P : Program} {w0 w : World} {G : Loc} {m : Mem} (h : St P w0 G m w) {i o n B b S : Nat} {cs : List Value} (hg : G i = some (B,b,S)) (hr : m.row i o n = some cs) :
    ∃ cs',cs'.length = n ∧ VRs G cs cs' ∧ ∀ (j : Nat) (v : Value),cs'[j]? = some v → w.cell? ((⟨B,b + o,none⟩ : Addr).add j) = some v := by
  obtain ⟨hl,hc⟩ := Mem.row_cell hr
  have key : ∀ (l : List Value) (k : Nat),(∀ (j : Nat) (v : Value),l[j]? = some v → m.cell i (k + j) = some v) → ∃ l',VRs G l l' ∧ ∀ (j : Nat) (v : Value),l'[j]? = some v → w.cell? ⟨B,b + (k + j),none⟩ = some v := by
    intro l
    induction l with
    | nil => exact fun k _ => ⟨[],.nil,by simp⟩
    | cons x l ih =>
      intro k hk
      obtain ⟨x',hx',hr'⟩ := h.cell hg (hk 0 x (by simp))
      obtain ⟨l',hl',hc'⟩ := ih (k + 1) (fun j v hj => by have := hk (j + 1) v (by simpa using hj); rwa [show k + (j + 1) = k + 1 + j from by omega] at this)
      refine ⟨x' :: l',.cons _ _ _ _ hr' hl',fun j v hj => ?_⟩
      cases j with
      | zero => simp at hj; subst hj; exact hx'
      | succ j => simp at hj; have := hc' j v hj; rwa [show k + 1 + j = k + (j + 1) from by omega] at this
  obtain ⟨cs',h1,h2⟩ := key cs o hc
  refine ⟨cs',by rw [h1.length,hl],h1,fun j v hj => ?_⟩
  rw [Addr.add_lit,Nat.add_assoc]
  exact h2 j v hj
inductive EqT where
  | bool
  | int
  | str
  | ptr
  | slice
  | map
  | func
  | iface (ts : List TypeId)
  | recd (parts : List (Nat × Nat × EqT))   -- from which cell on,how many cells (0: one value),how
def pkZ (cs : List Value) (off n : Nat) : Option Value :=
  if n = 0 then cs[off]? else if off + n ≤ cs.length then some (.agg ⟨(cs.drop off).take n⟩) else none
def dBin (op : BinOp) : Value → Value → Option Value
  | .int k a,.int k' b =>
    match op with
    | .shl => if b < 0 then none else some (.int k (k.wrap (a * 2 ^ (min b.toNat k.bits))))
    | .shr => if b < 0 then none else some (.int k (a.fdiv (2 ^ (min b.toNat k.bits))))
    | _ => if k = k' then
        match op with
        | .add => some (.int k (k.wrap (a + b)))
        | .sub => some (.int k (k.wrap (a - b)))
        | .mul => some (.int k (k.wrap (a * b)))
        | .quo => if b = 0 then none else some (.int k (k.wrap (a.tdiv b)))
        | .rem => if b = 0 then none else some (.int k (a.tmod b))
        | .and => some (.int k (k.wrap ((BitVec.ofInt k.bits a &&& BitVec.ofInt k.bits b).toNat : Nat)))
        | .or => some (.int k (k.wrap ((BitVec.ofInt k.bits a ||| BitVec.ofInt k.bits b).toNat : Nat)))
        | .xor => some (.int k (k.wrap ((BitVec.ofInt k.bits a ^^^ BitVec.ofInt k.bits b).toNat : Nat)))
        | .andNot => some (.int k (k.wrap ((BitVec.ofInt k.bits a &&& ~~~ BitVec.ofInt k.bits b).toNat : Nat)))
        | .eql => some (.bool (a == b))
        | .neq => some (.bool (a != b))
        | .lss => some (.bool (decide (a < b)))
        | .leq => some (.bool (decide (a ≤ b)))
        | .gtr => some (.bool (decide (a > b)))
        | .geq => some (.bool (decide (a ≥ b)))
        | _ => none
      else none
  | .string a,.string b =>
    match op with
    | .add => if a.size + b.size ≤ 9223372036854775807 then some (.string (a ++ b)) else none
    | .eql => some (.bool (a.data.toList == b.data.toList))
    | .neq => some (.bool (!(a.data.toList == b.data.toList)))
    | .lss => some (.bool (Op.bytesLess a.data.toList b.data.toList))
    | _ => none
  | _,_ => none
theorem dBin_run {P : Program} {w : World} {op : BinOp} {x y v : Value} (t : TypeId) (h : dBin op x y = some v) : (binOp op t x y).run P w = .ok v w := by
  unfold dBin at h
  split at h
  · rename_i k a k' b
    split at h
    · split at h
      · cases h
      · rename_i hb
        simp at h; subst h
        simp [binOp,Op.shift,hb]
    · split at h
      · cases h
      · rename_i hb
        simp at h; subst h
        simp [binOp,Op.shift,hb]
    · rename_i h1 h2
      split at h
      · rename_i hk
        subst hk
        cases op
        case and => simp only [Option.some.injEq] at h; subst h; rw [binOp_and]; rfl
        case or => simp only [Option.some.injEq] at h; subst h; rw [binOp_or]; rfl
        case xor => simp only [Option.some.injEq] at h; subst h; rw [binOp_xor]; rfl
        case andNot => simp only [Option.some.injEq] at h; subst h; rw [binOp_andNot]; rfl
        case shl => exact (h1 rfl).elim
        case shr => exact (h2 rfl).elim
        all_goals simp at h
        all_goals first
          | (subst h; simp [binOp,Op.intArith,Op.intCmp]; done)
          | (obtain ⟨hb,rfl⟩ := h; simp [binOp,Op.intDiv,hb])
      · cases h
  · rename_i a b
    cases op <;> simp at h
    · obtain ⟨hb,rfl⟩ := h
      show (Op.stringOp .add a b).run P w = _
      exact run_string_add_sum w a b hb
    all_goals (subst h; simp [binOp,Op.stringOp,ByteArray.toList_eq])
  · cases h
end Go.Proofs.YtccjlggpiliilaaGreatDoor.Ab

set_option linter.unusedVariables false
set_option linter.unusedSimpArgs false
namespace Go.Proofs.YtccjlggpiliilaaGreatDoor.Ab
open Go Go.RowKit
inductive RO where
  | mv (x : Operand)
  | pick (c a b : Operand)
  | ld (x : Operand)
  | ldn (n : Nat) (x : Operand)
  | nck (x : Operand)
  | bin (op : BinOp) (x y : Operand)
  | eq (neg : Bool) (e : EqT) (x y : Operand)
  | not (x : Operand)
  | neg (x : Operand)
  | com (x : Operand)
  | cvi (k : IntKind) (x : Operand)
  | cvs (x : Operand)
  | fa (off : Nat) (x : Operand)
  | fld (off n : Nat) (x : Operand)
  | ia (sz : Nat) (x i : Operand)
  | iaa (len sz : Nat) (x i : Operand)
  | ixs (x i : Operand)
  | ixa (len sz n : Nat) (x i : Operand)
  | sls (x : Operand) (lo hi : Option Operand)
  | sl (sz : Nat) (x : Operand) (lo hi : Option Operand)
  | sla (len sz : Nat) (x : Operand) (lo hi : Option Operand)
  | lens (x : Operand)
  | lenl (x : Operand)
  | lenc (n : Nat)
  | mki (t : TypeId) (x : Operand)
  | mkf (fn : Fn) (first captured : List Operand)
  | ext (i : Nat) (x : Operand)
  | bld (zero : List Value) (parts : List (Nat × Nat × Operand))
  | mn (x y : Operand)
  | mx (x y : Operand)
  | b2s (x : Operand)
  | cvp (x : Operand)
  | cvu (u sz : Nat) (x : Operand)
  | usd (x : Operand)
  | capn (x : Operand)
  | i2s (x : Operand)
  | tas (t : TypeId) (zero : Value) (ok : Bool) (x : Operand)
  | lku (kk : Nat) (ok : Bool) (zero : Value) (x i : Operand)
  | ent (x : Operand)
  | ieq (neg : Bool) (ts : List TypeId) (x y : Operand)
def bnd (ts : Fr) (y : Option Operand) (d lim : Nat) : Option Nat := match y with
  | none => some d
  | some y => match ev ts y with
    | .int _ j => if 0 ≤ j ∧ j ≤ (lim : Int) then some j.toNat else none
    | _ => none
def cellsV : Value → List Value
  | .agg cs => cs.toList
  | v => [v]
def putAt (cs : List Value) (off : Nat) (vs : List Value) : List Value := cs.take off ++ vs ++ cs.drop (off + vs.length)
def fiZ (ts : Fr) : List (Nat × Nat × Operand) → List Value → Option (List Value)
  | [],cs => some cs
  | (off,n,x) :: rest,cs =>
    if (cellsV (ev ts x)).length = n ∧ off + n ≤ cs.length then fiZ ts rest (putAt cs off (cellsV (ev ts x))) else none
def bytesOf : List Value → Option (List UInt8)
  | [] => some []
  | .int .u8 n :: rest => (bytesOf rest).map (UInt8.ofNat n.toNat :: ·)
  | _ => none
mutual
def dEq : EqT → Value → Value → Option Bool
  | .bool,.bool a,.bool b => some (a == b)
  | .int,.int k a,.int k' b => if k = k' then some (a == b) else none
  | .str,.string a,.string b => some (a.data.toList == b.data.toList)
  | .ptr,.pointer none,.pointer b => some b.isNone
  | .ptr,.pointer (some _),.pointer none => some false
  | .ptr,.pointer (some a),.pointer (some b) => if a = b then some true else none
  | .slice,.slice none _ _,.slice b _ _ => some b.isNone
  | .slice,.slice (some _) _ _,.slice none _ _ => some false
  | .map,.map none,.map b => some b.isNone
  | .map,.map (some _),.map none => some false
  | .func,.nilFunc,.nilFunc => some true
  | .func,.nilFunc,.func _ _ _ => some false
  | .func,.func _ _ _,.nilFunc => some false
  | .iface _,.nilIface,.nilIface => some true
  | .iface _,.nilIface,.iface _ _ => some false
  | .iface _,.iface _ _,.nilIface => some false
  | .iface ts,.iface t (.int k a),.iface t' (.int k' b) => if t = t' then (if ts.contains t && k = k' then some (a == b) else none) else some false
  | .iface _,.iface t (.agg _),.iface t' (.int _ _) => if t = t' then none else some false
  | .iface _,.iface t (.int _ _),.iface t' (.agg _) => if t = t' then none else some false
  | .recd ps,.agg xs,.agg ys => dEqs ps xs.toList ys.toList
  | _,_,_ => none
def dEqs : List (Nat × Nat × EqT) → List Value → List Value → Option Bool
  | [],_,_ => some true
  | (off,n,e) :: rest,xs,ys => match pkZ xs off n,pkZ ys off n with
    | some x,some y => match dEq e x y with
      | some true => dEqs rest xs ys
      | some false => some false
      | none => none
    | _,_ => none
end
def slD (sz : Nat) (ts : Fr) (lo hi : Option Operand) (i o n : Nat) : Option Value :=
  match bnd ts hi n n with
  | none => none
  | some h => match bnd ts lo 0 h with
    | none => none
    | some l => if l = 0 then some (.slice (some ⟨i,o,none⟩) h sz) else if l = h then some (.slice (some ⟨0,0,some 0⟩) 0 0) else some (.slice (some ⟨i,o + l * sz,none⟩) (h - l) sz)
def keyIs (kk : Nat) : Value → Value → Option Bool
  | .int k a,.int k' b => if kk = 0 ∧ k = k' then some (a == b) else none
  | .string a,.string b => if kk = 1 then some (a.data.toList == b.data.toList) else none
  | .agg ⟨[.int k a,.int k1 c]⟩,.agg ⟨[.int k' b,.int k1' d]⟩ => if kk = 2 ∧ k = k' ∧ k1 = k1' then some (a == b && c == d) else none
  | _,_ => none
def mapFind (kk : Nat) (k : Value) : List MapEntry → Nat → Option (Option (Nat × Value))
  | [],_ => some none
  | e :: es,i => match keyIs kk k e.key with
    | some true => some (some (i,e.val))
    | some false => mapFind kk k es (i + 1)
    | none => none
def aggP : Value → Bool
  | .agg ⟨[.int _ _,.int _ _]⟩ => true
  | _ => false
def bothNil : Value → Value → Bool
  | .nilIface,.nilIface => true
  | _,_ => false
@[simp] theorem bothNil_l (t : TypeId) (v : Value) : bothNil .nilIface (.iface t v) = false := rfl
@[simp] theorem bothNil_r (t : TypeId) (v x : Value) : bothNil (.iface t v) x = false := rfl
def dR (ts : Fr) (m : Mem) : RO → Option Value
  | .mv x => some (ev ts x)
  | .pick c a b => match ev ts c with
    | .bool true => some (ev ts a)
    | .bool false => some (ev ts b)
    | _ => none
  | .ld x => match ev ts x with
    | .pointer (some ⟨i,o,none⟩) => m.cell i o
    | _ => none
  | .ldn n x => match ev ts x with
    | .pointer (some ⟨i,o,none⟩) => match m.row i o n with
      | some cs => some (.agg ⟨cs⟩)
      | none => none
    | _ => none
  | .nck x => match ev ts x with
    | .pointer (some a) => some (.pointer (some a))
    | .iface t v => some (.iface t v)
    | .func (.func f) p q => some (.func (.func f) p q)
    | _ => none
  | .bin op x y => dBin op (ev ts x) (ev ts y)
  | .eq neg e x y => match dEq e (ev ts x) (ev ts y) with
    | some b => some (.bool (if neg then !b else b))
    | none => none
  | .not x => match ev ts x with
    | .bool b => some (.bool (!b))
    | _ => none
  | .neg x => match ev ts x with
    | .int k n => some (.int k (k.wrap (0 - n)))
    | _ => none
  | .com x => match ev ts x with
    | .int k n => some (.int k (k.wrap ((BitVec.ofInt k.bits (if k.signed then -1 else k.max) ^^^ BitVec.ofInt k.bits n).toNat : Nat)))
    | _ => none
  | .cvi k x => match ev ts x with
    | .int _ n => some (.int k (k.wrap n))
    | _ => none
  | .cvs x => match ev ts x with
    | .string s => some (.string s)
    | _ => none
  | .fa off x => match ev ts x with
    | .pointer (some ⟨i,o,none⟩) => some (.pointer (some ⟨i,o + off,none⟩))
    | _ => none
  | .fld off n x => match ev ts x with
    | .agg cs => pkZ cs.toList off n
    | _ => none
  | .ia sz x i => match ev ts x,ev ts i with
    | .slice (some ⟨b,o,none⟩) n _,.int _ j => if 0 ≤ j ∧ j < (n : Int) then some (.pointer (some ⟨b,o + j.toNat * sz,none⟩)) else none
    | _,_ => none
  | .iaa len sz x i => match ev ts x,ev ts i with
    | .pointer (some ⟨b,o,none⟩),.int _ j => if 0 ≤ j ∧ j < (len : Int) then some (.pointer (some ⟨b,o + j.toNat * sz,none⟩)) else none
    | _,_ => none
  | .ixs x i => match ev ts x,ev ts i with
    | .string s,.int _ j => match (if 0 ≤ j then s[j.toNat]? else none) with
      | some b => some (.int .u8 b.toNat)
      | none => none
    | _,_ => none
  | .ixa len sz n x i => match ev ts x,ev ts i with
    | .agg cs,.int _ j => if 0 ≤ j ∧ j < (len : Int) then pkZ cs.toList (j.toNat * sz) n else none
    | _,_ => none
  | .sls x lo hi => match ev ts x with
    | .string s => match bnd ts hi s.size s.size with
      | none => none
      | some h => match bnd ts lo 0 h with
        | none => none
        | some l => some (.string (s.extract l h))
    | _ => none
  | .sl sz x lo hi => match ev ts x with
    | .slice none _ _ => match bnd ts hi 0 0 with
      | none => none
      | some h => match bnd ts lo 0 h with
        | none => none
        | some _ => some (.slice none 0 0)
    | .slice (some ⟨_,_,some _⟩) _ _ => match bnd ts hi 0 0 with
      | none => none
      | some h => match bnd ts lo 0 h with
        | none => none
        | some _ => some (.slice (some ⟨0,0,some 0⟩) 0 0)
    | .slice (some ⟨i,o,none⟩) n z => if z = sz then slD sz ts lo hi i o n else none
    | _ => none
  | .sla len sz x lo hi => match ev ts x with
    | .pointer (some ⟨i,o,none⟩) => match m.get i with
      | .own cs _ => if o + len * sz ≤ cs.length ∧ 0 < len * sz then slD sz ts lo hi i o len else none
      | _ => none
    | _ => none
  | .lens x => match ev ts x with
    | .string s => some (.int .i64 s.size)
    | _ => none
  | .lenl x => match ev ts x with
    | .slice _ n _ => some (.int .i64 n)
    | _ => none
  | .lenc n => some (.int .i64 n)
  | .mki t x => some (.iface t (ev ts x))
  | .mkf fn f c => some (.func fn ⟨f.map (ev ts)⟩ ⟨c.map (ev ts)⟩)
  | .ext i x => match ev ts x with
    | .tuple vs => vs.toList[i]?
    | _ => none
  | .bld zero parts => match fiZ ts parts zero with
    | some cs => some (.agg ⟨cs⟩)
    | none => none
  | .mn x y => match ev ts x,ev ts y with
    | .int k a,.int _ b => some (.int k (if b < a then b else a))
    | _,_ => none
  | .mx x y => match ev ts x,ev ts y with
    | .int k a,.int _ b => some (.int k (if b > a then b else a))
    | _,_ => none
  | .b2s x => match ev ts x with
    | .slice none _ _ => some (.string .empty)
    | .slice (some ⟨_,_,some _⟩) _ _ => some (.string .empty)
    | .slice (some ⟨i,o,none⟩) n _ => match m.row i o n with
      | some cs => match bytesOf cs with
        | some bs => some (.string ⟨bs.toArray⟩)
        | none => none
      | none => none
    | _ => none
  | .cvp x => match ev ts x with
    | .pointer none => some (.pointer none)
    | .pointer (some ⟨i,o,none⟩) => match m.get i with
      | .own cs _ => if o < cs.length then some (.pointer (some ⟨i,o,none⟩)) else none
      | _ => none
    | _ => none
  | .cvu u sz x => match ev ts x with
    | .pointer none => some (.pointer none)
    | .pointer (some ⟨i,o,none⟩) => match m.get i with
      | .own cs e => if e = u ∧ o % sz = 0 ∧ o + sz ≤ cs.length then some (.pointer (some ⟨i,o,none⟩)) else none
      | _ => none
    | _ => none
  | .usd x => match ev ts x with
    | .slice none _ _ => some (.pointer none)
    | .slice (some ⟨i,o,none⟩) n _ => if 0 < n then some (.pointer (some ⟨i,o,none⟩)) else none
    | _ => none
  | .capn x => match ev ts x with
    | .slice none _ _ => some (.int .i64 0)
    | _ => none
  | .i2s x => match ev ts x with
    | .int _ n => some (.string (Utf8.encode n))
    | _ => none
  | .tas t z ok x => match ev ts x with
    | .nilIface => if ok = true then some (.tuple ⟨[z,.bool false]⟩) else none
    | .iface d v => if d = t then some (if ok = true then .tuple ⟨[v,.bool true]⟩ else v) else if ok = true then some (.tuple ⟨[z,.bool false]⟩) else none
    | _ => none
  | .lku kk ok z x i => match ev ts x with
    | .map none => if decide (kk < 2) = true ∨ aggP (ev ts i) = true then some (if ok = true then .tuple ⟨[z,.bool false]⟩ else z) else none
    | .map (some r) => if decide (kk < 2) = true ∨ aggP (ev ts i) = true then match m.get r with
      | .map es _ => match mapFind kk (ev ts i) es 0 with
        | some (some (_,v)) => some (if ok = true then .tuple ⟨[v,.bool true]⟩ else v)
        | some none => some (if ok = true then .tuple ⟨[z,.bool false]⟩ else z)
        | none => none
      | _ => none else none
    | _ => none
  | .ent x => match ev ts x with
    | .pointer (some ⟨i,0,none⟩) => match m.get i with
      | .miter (some q) _ seen last => match m.get q,seen.getLast? with
        | .map es cl,some st => if cl = last then match es.find? (·.born == st) with
            | some e => some (.tuple ⟨[e.key,e.val]⟩)
            | none => none
          else none
        | _,_ => none
      | _ => none
    | _ => none
  | .ieq neg tt x y => if bothNil (ev ts x) (ev ts y) = true then none else match dEq (.iface tt) (ev ts x) (ev ts y) with
    | some b => some (.bool (if neg then !b else b))
    | none => none
def aggN (P : Program) (t : TypeId) : Option Nat := match P.underlying t,P.info? t with
  | some (.struct _),some i => if i.size = 0 then none else some i.size
  | some (.array _ _),some i => if i.size = 0 then none else some i.size
  | some _,some i => if i.size = 1 then some 0 else none
  | _,_ => none
theorem aggN_spec {P : Program} {t : TypeId} {n : Nat} (h : aggN P t = some n) :
    ∃ i,P.info? t = some i ∧ (∀ w,(isAgg t).run P w = .ok (decide (n ≠ 0)) w) ∧ i.size = (if n = 0 then 1 else n) := by
  unfold aggN at h
  split at h
  · rename_i fs i hu hi
    split at h
    · cases h
    · rename_i hz
      simp at h
      refine ⟨i,by assumption,fun w => by simp [isAgg,run_underlying ‹P.underlying t = _›]; omega,by simp [← h,hz]⟩
  · rename_i l e i hu hi
    split at h
    · cases h
    · rename_i hz
      simp at h
      refine ⟨i,by assumption,fun w => by simp [isAgg,run_underlying ‹P.underlying t = _›]; omega,by simp [← h,hz]⟩
  · rename_i d i h1 h2 hu hi
    split at h
    · rename_i hs
      simp at h
      subst h
      refine ⟨i,by assumption,fun w => ?_,by simp [hs]⟩
      have hd := ‹P.underlying t = some d›
      cases d <;> first | (simp [isAgg,run_underlying hd]; done) | (exact (h1 _ rfl).elim) | (exact (h2 _ _ rfl).elim)
    · cases h
  · cases h
theorem run_sizeOf {P : Program} {t : TypeId} {i : TypeInfo} (h : P.info? t = some i) (w : World) : (sizeOf t).run P w = .ok i.size w := by
  simp [sizeOf,typeInfo,h]
section
variable {P : Program} {w0 w : World} {G : Loc} {m : Mem}
theorem snd_ld {t : TypeId} (ht : aggN P t = some 0) (hs : St P w0 G m w) {i o : Nat} {v p : Value} (hp : VR G (.pointer (some ⟨i,o,none⟩)) p) (hc : m.cell i o = some v) :
    ∃ v',(Instr.loadAt t p).run P w = .ok v' w ∧ VR G v v' := by
  cases hp with
  | ptr _ _ B b S hg =>
    obtain ⟨v',h1,h2⟩ := hs.cell hg hc
    obtain ⟨_,_,ha,_⟩ := aggN_spec ht
    exact ⟨v',by simp [Instr.loadAt,Instr.sureAddr,loadVar,ha,h1],h2⟩
theorem snd_ldn {t : TypeId} {n : Nat} (hn : n ≠ 0) (ht : aggN P t = some n) (hs : St P w0 G m w) {i o : Nat} {cs : List Value} {p : Value} (hp : VR G (.pointer (some ⟨i,o,none⟩)) p) (hc : m.row i o n = some cs) :
    ∃ v',(Instr.loadAt t p).run P w = .ok v' w ∧ VR G (.agg ⟨cs⟩) v' := by
  cases hp with
  | ptr _ _ B b S hg =>
    obtain ⟨cs',h1,h2,h3⟩ := hs.row hg hc
    obtain ⟨i,hi,ha,hz⟩ := aggN_spec ht
    refine ⟨.agg ⟨cs'⟩,?_,.agg _ _ h2⟩
    have hl := run_loadCells_list (P := P) (w := w) ⟨B,b + o,none⟩ cs' h3
    rw [h1] at hl
    simp [hn] at hz
    simp [Instr.loadAt,Instr.sureAddr,loadVar,ha,hn,run_sizeOf hi,hz,hl]
theorem snd_fa {t : TypeId} {fs : Array Field} {f : Field} {k : Nat} {fi : TypeInfo} (hu : P.underlying t = some (.struct fs)) (hf : fs[k]? = some f) (hfi : P.info? f.type = some fi) (hz : fi.size ≠ 0)
    {i o : Nat} {p : Value} (hp : VR G (.pointer (some ⟨i,o,none⟩)) p) :
    ∃ v',(Instr.fieldAt t p k).run P w = .ok v' w ∧ VR G (.pointer (some ⟨i,o + f.offset,none⟩)) v' := by
  cases hp with
  | ptr _ _ B b S hg =>
    refine ⟨.pointer (some ⟨B,b + (o + f.offset),none⟩),?_,.ptr _ _ _ _ _ hg⟩
    simp [Instr.fieldAt,run_underlying hu,hf,Instr.sureAddr,fieldPlace,run_sizeOf hfi,hz,Addr.add_lit,Nat.add_assoc]
theorem VRs.pick {cs cs' : List Value} (h : VRs G cs cs') {off n : Nat} {v : Value} (hv : pkZ cs off n = some v) : ∃ v',pkZ cs' off n = some v' ∧ VR G v v' := by
  unfold pkZ at hv ⊢
  split at hv
  · rename_i hn
    obtain ⟨v',h1,h2⟩ := h.get _ _ hv
    exact ⟨v',by simp [hn,h1],h2⟩
  · rename_i hn
    split at hv
    · rename_i hle
      simp at hv
      subst hv
      exact ⟨.agg ⟨(cs'.drop off).take n⟩,by simp [hn,h.length,hle],.agg _ _ ((h.drop off).take n)⟩
    · cases hv
theorem snd_part {t : TypeId} {n : Nat} (ht : aggN P t = some n) {cs : List Value} {off : Nat} {v : Value} (hv : pkZ cs off n = some v) : (part t ⟨cs⟩ off).run P w = .ok v w := by
  obtain ⟨i,hi,ha,hz⟩ := aggN_spec ht
  unfold pkZ at hv
  split at hv
  · rename_i hn
    subst hn
    simp [part,ha,hv]
  · rename_i hn
    split at hv
    · rename_i hle
      simp at hv
      subst hv
      simp [hn] at hz
      simp [part,ha,hn,run_sizeOf hi,hz]
    · cases hv
theorem snd_fld {t : TypeId} {fs : Array Field} {f : Field} {k n : Nat} (hu : P.underlying t = some (.struct fs)) (hf : fs[k]? = some f) (hn : aggN P f.type = some n)
    {cs : Array Value} {v x : Value} (hx : VR G (.agg cs) x) (hv : pkZ cs.toList f.offset n = some v) :
    ∃ v',(Instr.field t x k).run P w = .ok v' w ∧ VR G v v' := by
  cases hx with
  | agg c c' h =>
    obtain ⟨v',h1,h2⟩ := h.pick hv
    exact ⟨v',by simp [Instr.field,run_underlying hu,hf,asAgg,snd_part hn h1],h2⟩
theorem snd_ia {t e : TypeId} {ei : TypeInfo} (hu : P.underlying t = some (.slice e)) (hi : P.info? e = some ei) {b o n n' : Nat} {k : IntKind} {j : Int} {x y : Value}
    (hx : VR G (.slice (some ⟨b,o,none⟩) n n') x) (hy : VR G (.int k j) y) (h0 : 0 ≤ j) (h1 : j < (n : Int)) :
    ∃ v',(Instr.indexAt t x y).run P w = .ok v' w ∧ VR G (.pointer (some ⟨b,o + j.toNat * ei.size,none⟩)) v' := by
  cases hy
  cases hx with
  | sl _ _ B c S _ cp z hg hn hc hS =>
    refine ⟨.pointer (some ⟨B,c + (o + j.toNat * ei.size),none⟩),?_,.ptr _ _ _ _ _ hg⟩
    simp [Instr.indexAt,asIntOf,run_underlying hu,h0,h1,run_sizeOf hi,Addr.add_lit,Nat.add_assoc]
theorem snd_iaa {t e : TypeId} {ei : TypeInfo} {len : Nat} (hu : P.underlying t = some (.array len e)) (hi : P.info? e = some ei) {b o : Nat} {k : IntKind} {j : Int} {x y : Value}
    (hx : VR G (.pointer (some ⟨b,o,none⟩)) x) (hy : VR G (.int k j) y) (h0 : 0 ≤ j) (h1 : j < (len : Int)) :
    ∃ v',(Instr.indexAt t x y).run P w = .ok v' w ∧ VR G (.pointer (some ⟨b,o + j.toNat * ei.size,none⟩)) v' := by
  cases hy
  cases hx with
  | ptr _ _ B c S hg =>
    refine ⟨.pointer (some ⟨B,c + (o + j.toNat * ei.size),none⟩),?_,.ptr _ _ _ _ _ hg⟩
    simp [Instr.indexAt,Instr.sureAddr,asIntOf,run_underlying hu,h0,h1,run_sizeOf hi,Addr.add_lit,Nat.add_assoc]
theorem snd_ixs {t : TypeId} (hu : P.underlying t = some .string) {s : ByteArray} {k : IntKind} {j : Int} {x y v : Value} (hx : VR G (.string s) x) (hy : VR G (.int k j) y)
    (hv : (match (if 0 ≤ j then s[j.toNat]? else none) with | some b => some (Value.int .u8 b.toNat) | none => none) = some v) :
    ∃ v',(Instr.index t x y).run P w = .ok v' w ∧ VR G v v' := by
  cases hy
  cases hx
  split at hv
  · rename_i b hb
    simp at hv
    subst hv
    exact ⟨_,by simp [Instr.index,asIntOf,run_underlying hu,hb],.int _ _⟩
  · cases hv
theorem snd_ixa {t e : TypeId} {len n : Nat} {ei : TypeInfo} (hu : P.underlying t = some (.array len e)) (hn : aggN P e = some n) (hi : P.info? e = some ei) {cs : Array Value} {k : IntKind} {j : Int} {x y v : Value} (hx : VR G (.agg cs) x) (hy : VR G (.int k j) y)
    (h0 : 0 ≤ j) (h1 : j < (len : Int)) (hv : pkZ cs.toList (j.toNat * ei.size) n = some v) :
    ∃ v',(Instr.index t x y).run P w = .ok v' w ∧ VR G v v' := by
  cases hy
  cases hx with
  | agg c c' h =>
    obtain ⟨v',h2,h3⟩ := h.pick hv
    exact ⟨v',by simp [Instr.index,asIntOf,run_underlying hu,h0,h1,run_sizeOf hi,snd_part hn h2],h3⟩
theorem bnd_run {N : Nat} {ts : Fr} {a : Act} (ha : AR G N ts a) (hs : St P w0 G m w) {y : Operand} (hy : okX P N y = true) {d lim lim' r : Nat} (h : bnd ts (some y) d lim = some r) (hl : lim ≤ lim') (code : BoundsCode) :
    (Instr.sliceBound (a.eval y) lim' code).run P w = .ok r w ∧ r ≤ lim := by
  have hv := ev_VR ha hs y hy
  simp only [bnd] at h
  split at h
  · rename_i k j he
    rw [he] at hv
    split at h
    · rename_i hc
      simp at h
      subst h
      generalize a.eval y = z at hv
      cases hv
      obtain ⟨c1,c2⟩ := hc
      exact ⟨by simp [Instr.sliceBound,asIntOf,c1,(show j ≤ (lim' : Int) by omega)],by omega⟩
    · cases h
  · cases h
theorem bounds_run {N : Nat} {ts : Fr} {a : Act} (ha : AR G N ts a) (hs : St P w0 G m w) {lo hi : Option Operand} (hlo : lo.all (okX P N) = true) (hhi : hi.all (okX P N) = true) {len cap h l : Nat} (isSlice : Bool)
    (hc : len ≤ cap) (h1 : bnd ts hi len len = some h) (h2 : bnd ts lo 0 h = some l) :
    (Instr.sliceBounds isSlice len cap (lo.map a.eval) (hi.map a.eval) none).run P w = .ok (l,h,cap) w ∧ l ≤ h ∧ h ≤ len := by
  have hh : (Instr.sliceBounds isSlice len cap none (hi.map a.eval) none).run P w = .ok (0,h,cap) w ∧ h ≤ len := by
    cases hi with
    | none => simp [bnd] at h1; subst h1; exact ⟨by simp [Instr.sliceBounds],Nat.le_refl _⟩
    | some y =>
      have := bnd_run ha hs (by simpa using hhi) h1 hc (if isSlice then .sliceAcap else .sliceAlen)
      exact ⟨by simp [Instr.sliceBounds,this.1],this.2⟩
  cases lo with
  | none => simp [bnd] at h2; subst h2; exact ⟨hh.1,Nat.zero_le _,hh.2⟩
  | some y =>
    have h3 := bnd_run ha hs (by simpa using hlo) h2 (Nat.le_refl h) .sliceB
    refine ⟨?_,h3.2,hh.2⟩
    cases hi with
    | none => simp [bnd] at h1; subst h1; simp [Instr.sliceBounds,h3.1]
    | some z =>
      have := bnd_run ha hs (by simpa using hhi) h1 hc (if isSlice then .sliceAcap else .sliceAlen)
      simp [Instr.sliceBounds,this.1,h3.1]
theorem snd_slD {N : Nat} {ts : Fr} {a : Act} (ha : AR G N ts a) (hs : St P w0 G m w) {lo hi : Option Operand} (hlo : lo.all (okX P N) = true) (hhi : hi.all (okX P N) = true) {i o n B b S c sz : Nat} {v : Value}
    (hg : G i = some (B,b,S)) (hn : n ≤ c) (hc : c ≤ maxLen) (hS : b + o + c * sz ≤ S) (isSlice : Bool) (h : slD sz ts lo hi i o n = some v) :
    ∃ l h',(Instr.sliceBounds isSlice n c (lo.map a.eval) (hi.map a.eval) none).run P w = .ok (l,h',c) w ∧
      VR G v (.slice (if c = l then some ⟨B,b + o,none⟩ else some ((⟨B,b + o,none⟩ : Addr).add (l * sz))) (h' - l) (c - l)) := by
  unfold slD at h
  split at h
  · cases h
  · rename_i h' h1
    split at h
    · cases h
    · rename_i l h2
      obtain ⟨hr,hl,hh⟩ := bounds_run ha hs hlo hhi isSlice hn h1 h2
      refine ⟨l,h',hr,?_⟩
      split at h
      · rename_i hl0
        simp at h
        subst h
        subst hl0
        have : (if c = 0 then some (⟨B,b + o,none⟩ : Addr) else some ((⟨B,b + o,none⟩ : Addr).add (0 * sz))) = some ⟨B,b + o,none⟩ := by split <;> simp [Addr.add]
        rw [this]
        exact .sl _ _ _ _ _ _ _ _ hg (by omega) (by omega) (by simpa using hS)
      · split at h
        · rename_i hl0 hlh
          simp at h
          subst h
          subst hlh
          rw [Nat.sub_self]
          split
          · exact .empty _ _ (by omega)
          · exact .empty _ _ (by omega)
        · rename_i hl0 hlh
          simp at h
          subst h
          rw [if_neg (by omega),Addr.add_lit,Nat.add_assoc]
          refine .sl _ _ _ _ _ _ _ _ hg (by omega) (by omega) ?_
          have e1 : l * sz + (c - l) * sz = c * sz := by rw [← Nat.add_mul]; congr 1; omega
          omega
theorem snd_sl {N : Nat} {ts : Fr} {a : Act} (ha : AR G N ts a) (hs : St P w0 G m w) {t e : TypeId} {ei : TypeInfo} (hu : P.underlying t = some (.slice e)) (hin : P.info? e = some ei) {x : Operand} (hx : okX P N x = true) {lo hi : Option Operand} (hlo : lo.all (okX P N) = true) (hhi : hi.all (okX P N) = true) {v : Value}
    (h : dR ts m (.sl ei.size x lo hi) = some v) :
    ∃ v',(Instr.sliceAt t (a.eval x) (lo.map a.eval) (hi.map a.eval) none).run P w = .ok v' w ∧ VR G v v' := by
  have hv := ev_VR ha hs x hx
  simp only [dR] at h
  split at h
  · rename_i n c he
    rw [he] at hv
    generalize a.eval x = z at hv
    cases hv
    split at h
    · cases h
    · rename_i h' h1
      split at h
      · cases h
      · rename_i l h2
        simp at h
        subst h
        obtain ⟨hr,hl,hh⟩ := bounds_run ha hs hlo hhi true (Nat.le_refl 0) h1 h2
        obtain rfl : h' = 0 := by omega
        obtain rfl : l = 0 := by omega
        exact ⟨.slice none 0 0,by simp [Instr.sliceAt,Instr.slice,run_underlying hu,hr,run_sizeOf hin],.nils⟩
  · rename_i q q2 q3 n c he
    rw [he] at hv
    generalize a.eval x = z at hv
    cases hv with
    | empty ad cp hcp =>
      split at h
      · cases h
      · rename_i h' h1
        split at h
        · cases h
        · rename_i l h2
          simp at h
          subst h
          obtain ⟨hr,hl,hh⟩ := bounds_run ha hs hlo hhi true (Nat.zero_le cp) h1 h2
          obtain rfl : h' = 0 := by omega
          obtain rfl : l = 0 := by omega
          by_cases hc0 : cp = 0
          · subst hc0
            exact ⟨.slice (some ad) 0 0,by simp [Instr.sliceAt,Instr.slice,run_underlying hu,hr,run_sizeOf hin],.empty _ _ hcp⟩
          · exact ⟨.slice (some (ad.add 0)) 0 cp,by simp [Instr.sliceAt,Instr.slice,run_underlying hu,hr,run_sizeOf hin,hc0],.empty _ _ hcp⟩
  · rename_i i o n c he
    rw [he] at hv
    generalize a.eval x = z at hv
    cases hv with
    | sl _ _ B b S _ cp z hg hn hc hS =>
      split at h
      case isFalse => cases h
      rename_i hz
      subst hz
      obtain ⟨l,h',hr,hv⟩ := snd_slD ha hs hlo hhi hg hn hc hS true h
      refine ⟨_,?_,hv⟩
      simp only [Instr.sliceAt,Instr.slice,Sem.run_bind,run_underlying hu,Result.andThen_ok,hr,run_sizeOf hin,Sem.run_pure,Option.map_some]
  · cases h
theorem snd_sla {N : Nat} {ts : Fr} {a : Act} (ha : AR G N ts a) (hs : St P w0 G m w) {t e : TypeId} {ei : TypeInfo} {len : Nat} (hu : P.underlying t = some (.array len e)) (hin : P.info? e = some ei) (hml : len ≤ maxLen) {x : Operand} (hx : okX P N x = true) {lo hi : Option Operand} (hlo : lo.all (okX P N) = true) (hhi : hi.all (okX P N) = true) {v : Value}
    (h : dR ts m (.sla len ei.size x lo hi) = some v) :
    ∃ v',(Instr.sliceAt t (a.eval x) (lo.map a.eval) (hi.map a.eval) none).run P w = .ok v' w ∧ VR G v v' := by
  have hv := ev_VR ha hs x hx
  simp only [dR] at h
  split at h
  · rename_i i o he
    rw [he] at hv
    generalize a.eval x = z at hv
    cases hv with
    | ptr _ _ B b S hg =>
      split at h
      case h_2 => cases h
      rename_i cs e hown
      split at h
      case isFalse => cases h
      rename_i hlen
      have hS : b + o + len * ei.size ≤ S := by
        obtain ⟨B',b',S',g',r⟩ := hs.ent i (by rw [hown]; simp)
        rw [hg] at g'
        cases g'
        rw [hown] at r
        obtain ⟨_,c,fz,h1,hcS,h2,h3⟩ := r
        obtain ⟨v',hv,_⟩ := h3 (cs.length - 1) (cs[cs.length - 1]'(by omega)) (by simp)
        have := (Array.getElem?_eq_some_iff.1 hv).1
        omega
      obtain ⟨l,h',hr,hv⟩ := snd_slD ha hs hlo hhi hg (Nat.le_refl len) hml hS false h
      refine ⟨_,?_,hv⟩
      simp only [Instr.sliceAt,Instr.sureAddr,Sem.run_bind,run_underlying hu,Result.andThen_ok,hr,run_sizeOf hin,Sem.run_pure]
      split <;> rfl
  · cases h
theorem snd_sls {N : Nat} {ts : Fr} {a : Act} (ha : AR G N ts a) (hs : St P w0 G m w) {t : TypeId} (hu : P.underlying t = some .string) {x : Operand} (hx : okX P N x = true) {lo hi : Option Operand} (hlo : lo.all (okX P N) = true) (hhi : hi.all (okX P N) = true) {v : Value}
    (h : dR ts m (.sls x lo hi) = some v) :
    ∃ v',(Instr.sliceAt t (a.eval x) (lo.map a.eval) (hi.map a.eval) none).run P w = .ok v' w ∧ VR G v v' := by
  have hv := ev_VR ha hs x hx
  simp only [dR] at h
  split at h
  · rename_i s he
    rw [he] at hv
    generalize a.eval x = z at hv
    cases hv
    split at h
    · cases h
    · rename_i h' h1
      split at h
      · cases h
      · rename_i l h2
        simp at h
        subst h
        obtain ⟨hr,hl,hh⟩ := bounds_run ha hs hlo hhi false (Nat.le_refl s.size) h1 h2
        exact ⟨_,by simp [Instr.sliceAt,Instr.slice,run_underlying hu,hr],.str _⟩
  · cases h
theorem bytesOf_cells : ∀ {cs : List Value} {bs : List UInt8},bytesOf cs = some bs → ∃ ns : List Int,cs = ns.map (Value.int .u8) ∧ bs = ns.map fun n => UInt8.ofNat n.toNat
  | [],bs,h => by simp [bytesOf] at h; subst h; exact ⟨[],rfl,rfl⟩
  | c :: cs,bs,h => by
    unfold bytesOf at h
    split at h
    · rename_i e; cases e
    · rename_i n rest e
      cases e
      cases hb : bytesOf cs with
      | none => simp [hb] at h
      | some b =>
        simp [hb] at h
        obtain ⟨ns,h1,h2⟩ := bytesOf_cells hb
        exact ⟨n :: ns,by simp [h1],by rw [← h,h2]; rfl⟩
    · cases h
theorem VRs.ints {k : IntKind} : ∀ {ns : List Int} {l : List Value},VRs G (ns.map (Value.int k)) l → l = ns.map (Value.int k)
  | [],_,.nil => rfl
  | n :: ns,_,.cons _ _ _ _ h hk => by cases h; rw [VRs.ints hk]; rfl
theorem fold_bytes (ns : List Int) : ns.foldl (fun (r : ByteArray) (n : Int) => r.push (UInt8.ofNat n.toNat)) ByteArray.empty = ⟨(ns.map fun n => UInt8.ofNat n.toNat).toArray⟩ := by
  have key : ∀ (ns : List Int) (s : ByteArray),ns.foldl (fun (r : ByteArray) (n : Int) => r.push (UInt8.ofNat n.toNat)) s = ⟨s.data ++ (ns.map fun n => UInt8.ofNat n.toNat).toArray⟩ := by
    intro ns
    induction ns with
    | nil => intro s; simp
    | cons n ns ih =>
      intro s
      rw [List.foldl_cons,ih]
      congr 1
      simp [ByteArray.push]
  rw [key]
  congr 1
  rw [show ByteArray.empty.data = #[] from rfl,Array.empty_append]
theorem snd_b2s {N : Nat} {ts : Fr} {a : Act} (ha : AR G N ts a) (hs : St P w0 G m w) {s t e : TypeId} (hsrc : P.underlying s = some (.slice e)) (he : P.underlying e = some (.int .u8)) (hdst : P.underlying t = some .string) {x : Operand} (hx : okX P N x = true) {v : Value}
    (h : dR ts m (.b2s x) = some v) : ∃ v',(convert s t (a.eval x)).run P w = .ok v' w ∧ VR G v v' := by
  have hv := ev_VR ha hs x hx
  simp only [dR] at h
  split at h
  · rename_i n c hx'
    rw [hx'] at hv
    generalize a.eval x = z at hv
    cases hv
    simp at h; subst h
    exact ⟨_,by rw [run_convert_bytes_string w s t e none 0 0 hsrc he hdst]; simp [Conv.bytesToString],.str _⟩
  · rename_i q q2 q3 n c hx'
    rw [hx'] at hv
    generalize a.eval x = z at hv
    cases hv with
    | empty ad cp hcp =>
      simp at h; subst h
      refine ⟨.string .empty,?_,.str _⟩
      rw [run_convert_bytes_string w s t e _ 0 _ hsrc he hdst]
      exact run_bytesToString (P := P) w ad 0 cp [] (by simp [loadCells,loadCellsFrom])
  · rename_i i o n c hx'
    rw [hx'] at hv
    generalize a.eval x = z at hv
    cases hv with
    | sl _ _ B b S _ cp z hg hn hc hS =>
      split at h
      · rename_i cs hr
        split at h
        · rename_i bs hb
          simp at h; subst h
          obtain ⟨cs',h1,h2,h3⟩ := hs.row hg hr
          obtain ⟨ns,rfl,rfl⟩ := bytesOf_cells hb
          have := VRs.ints h2
          subst this
          refine ⟨_,?_,.str _⟩
          rw [run_convert_bytes_string w s t e _ n _ hsrc he hdst]
          have hl := run_loadCells_list (P := P) (w := w) ⟨B,b + o,none⟩ _ h3
          rw [h1] at hl
          rw [run_bytesToString w _ n cp ns hl,fold_bytes]
        · cases h
      · cases h
  · cases h
end
end Go.Proofs.YtccjlggpiliilaaGreatDoor.Ab

set_option linter.unusedVariables false
set_option linter.unusedSimpArgs false
namespace Go.Proofs.YtccjlggpiliilaaGreatDoor.Ab
open Go Go.RowKit
mutual
def eqOk (P : Program) : Nat → EqT → TypeId → Bool
  | 0,_,_ => false
  | d + 1,e,t => match e,P.underlying t with
    | .bool,some .bool => true
    | .int,some (.int _) => true
    | .str,some .string => true
    | .ptr,some (.pointer te) => (P.info? te).isSome
    | .slice,some (.slice _) => true
    | .map,some (.map _ _) => true
    | .func,some (.func _ _ _) => true
    | .iface ts,some (.interface _) => decide (0 < d) && ts.all fun u => (match P.info? u with | some i => i.comparable | none => false) && (match P.underlying u with | some (.int _) => true | _ => false)
    | .recd ps,some (.struct fs) => !P.stoodInHeld t && partsOk P d ps fs.toList
    | _,_ => false
def partsOk (P : Program) : Nat → List (Nat × Nat × EqT) → List Field → Bool
  | _,[],[] => true
  | 0,_,_ => false
  | d + 1, (off, n, e) :: ps, f :: fs => f.name != "_" && off == f.offset && aggN P f.type == some n && eqOk P d e f.type && partsOk P d ps fs
  | _,_,_ => false
end
section
variable {P : Program} {w0 w : World} {G : Loc} {m : Mem}
set_option maxHeartbeats 4000000 in
theorem snd_eq : ∀ (D : Nat),
    (∀ (e : EqT) (t : TypeId) (x y x' y' : Value) (b : Bool) (d : Nat),eqOk P D e t = true → D ≤ d → dEq e x y = some b → VR G x x' → VR G y y' → (Op.equalIn d t x' y').run P w = .ok b w) ∧
    (∀ (ps : List (Nat × Nat × EqT)) (fs : List Field) (xs ys xs' ys' : List Value) (b : Bool) (d : Nat),partsOk P D ps fs = true → D ≤ d → dEqs ps xs ys = some b → VRs G xs xs' → VRs G ys ys' → (Op.eqFields d ⟨xs'⟩ ⟨ys'⟩ fs).run P w = .ok b w) := by
  intro D
  induction D with
  | zero =>
    refine ⟨fun e t x y x' y' b d h => by simp [eqOk] at h,fun ps fs xs ys xs' ys' b d h _ hd _ _ => ?_⟩
    cases ps <;> cases fs <;> simp [partsOk] at h
    simp [dEqs] at hd
    subst hd
    simp [Op.eqFields]
  | succ D ih =>
    refine ⟨?_,?_⟩
    · intro e t x y x' y' b d h hle hd hx hy
      obtain ⟨d,rfl⟩ : ∃ k,d = k + 1 := ⟨d - 1,by omega⟩
      cases hu : P.underlying t with
      | none => cases e <;> simp [eqOk,hu] at h
      | some u =>
      cases e with
      | bool =>
        cases u <;> simp [eqOk,hu] at h
        unfold dEq at hd
        split at hd <;> first | (simp at hd; done) | skip
        all_goals (try (rename_i he; cases he; done))
        simp at hd; subst hd
        cases hx; cases hy
        exact run_equalIn_bool w d t _ _ hu
      | int =>
        cases u <;> simp [eqOk,hu] at h
        unfold dEq at hd
        split at hd <;> first | (simp at hd; done) | skip
        all_goals (try (rename_i he; cases he; done))
        simp at hd
        obtain ⟨rfl,rfl⟩ := hd
        cases hx; cases hy
        exact run_equalIn_int w d t _ _ _ _ hu
      | str =>
        cases u <;> simp [eqOk,hu] at h
        unfold dEq at hd
        split at hd <;> first | (simp at hd; done) | skip
        all_goals (try (rename_i he; cases he; done))
        simp only [Option.some.injEq] at hd
        subst hd
        cases hx; cases hy
        rw [run_equalIn_string w d t _ _ hu,ByteArray.toList_eq,ByteArray.toList_eq]
      | ptr =>
        cases u <;> simp [eqOk,hu] at h
        unfold dEq at hd
        split at hd <;> first | (simp at hd; done) | skip
        all_goals (try (rename_i he; cases he; done))
        · simp at hd; subst hd
          cases hx; cases hy <;> simp [Op.equalIn,run_underlying hu]
        · simp at hd; subst hd
          cases hx; cases hy; simp [Op.equalIn,run_underlying hu]
        · rename_i te _ a1 b1 _
          obtain ⟨ti,hti⟩ := Option.isSome_iff_exists.1 h
          simp at hd
          obtain ⟨rfl,rfl⟩ := hd
          cases hx with
          | ptr i o B b S hg => cases hy with
            | ptr _ _ B' b' S' hg' =>
              rw [hg] at hg'
              cases hg'
              simp [Op.equalIn,run_underlying hu,sizeOf,typeInfo,hti,run_sameAddr_same]
      | slice =>
        cases u <;> simp [eqOk,hu] at h
        unfold dEq at hd
        split at hd <;> first | (simp at hd; done) | skip
        all_goals (try (rename_i he; cases he; done))
        · simp at hd; subst hd
          cases hx; cases hy <;> simp [Op.equalIn,run_underlying hu]
        · simp at hd; subst hd
          cases hx <;> cases hy <;> simp [Op.equalIn,run_underlying hu]
      | map =>
        cases u <;> simp [eqOk,hu] at h
        unfold dEq at hd
        split at hd <;> first | (simp at hd; done) | skip
        all_goals (try (rename_i he; cases he; done))
        · simp at hd; subst hd
          cases hx; cases hy <;> simp [Op.equalIn,run_underlying hu]
        · simp at hd; subst hd
          cases hx <;> cases hy <;> simp [Op.equalIn,run_underlying hu]
      | func =>
        cases u <;> simp [eqOk,hu] at h
        unfold dEq at hd
        split at hd <;> first | (simp at hd; done) | skip
        all_goals (try (rename_i he; cases he; done))
        all_goals (simp at hd; subst hd; cases hx; cases hy; simp [Op.equalIn,run_underlying hu])
      | iface ts =>
        cases u <;> simp [eqOk,hu] at h
        unfold dEq at hd
        split at hd <;> first | (simp at hd; done) | skip
        all_goals (try (rename_i he; cases he; done))
        · simp at hd; subst hd; cases hx; cases hy; simp [Op.equalIn,run_underlying hu]
        · simp at hd; subst hd; cases hx; cases hy; simp [Op.equalIn,run_underlying hu]
        · simp at hd; subst hd; cases hx; cases hy; simp [Op.equalIn,run_underlying hu]
        · rename_i ts' t1 k1 n1 t2 k2 n2 he
          cases he
          cases hx with
          | iface _ _ _ hx => cases hy with
            | iface _ _ _ hy =>
              cases hx; cases hy
              by_cases ht : t1 = t2
              · subst ht
                simp at hd
                obtain ⟨⟨hc,rfl⟩,rfl⟩ := hd
                have h1 := h.2 _ hc
                obtain ⟨h1,h2⟩ := h1
                cases hi : P.info? t1 with
                | none => simp [hi] at h1
                | some i =>
                  simp [hi] at h1
                  cases hv : P.underlying t1 with
                  | none => simp [hv] at h2
                  | some v =>
                    cases v <;> simp [hv] at h2
                    obtain ⟨d,rfl⟩ : ∃ k,d = k + 1 := ⟨d - 1,by omega⟩
                    simp [Op.equalIn,run_underlying hu,typeInfo,hi,h1,run_underlying hv]
              · simp [ht] at hd
                subst hd
                simp [Op.equalIn,run_underlying hu,ht]
        · rename_i ts' t1 c1 t2 k2 n2 he
          cases he
          by_cases ht : t1 = t2
          · simp [ht] at hd
          · simp [ht] at hd
            subst hd
            cases hx; cases hy
            simp [Op.equalIn,run_underlying hu,ht]
        · rename_i ts' t1 k1 n1 t2 c2 he
          cases he
          by_cases ht : t1 = t2
          · simp [ht] at hd
          · simp [ht] at hd
            subst hd
            cases hx; cases hy
            simp [Op.equalIn,run_underlying hu,ht]
      | recd ps =>
        cases u <;> simp [eqOk,hu] at h
        rename_i fs
        unfold dEq at hd
        split at hd <;> first | (simp at hd; done) | skip
        all_goals (try (rename_i he; cases he; done))
        rename_i ps' xs ys he
        cases he
        cases hx with
        | agg c c' hx => cases hy with
          | agg e e' hy =>
            have hf : P.fieldsOf t = fs := by simp [Program.fieldsOf,hu]
            rw [run_equalIn_struct w d t _ _ (by rw [hf]; exact hu) h.1,hf]
            exact ih.2 ps fs.toList _ _ _ _ b d h.2 (by omega) hd hx hy
    · intro ps fs xs ys xs' ys' b d h hle hd hx hy
      cases ps with
      | nil =>
        cases fs with
        | nil => simp [dEqs] at hd; subst hd; simp [Op.eqFields]
        | cons f fs => simp [partsOk] at h
      | cons p ps =>
        obtain ⟨off,n,e⟩ := p
        cases fs with
        | nil => simp [partsOk] at h
        | cons f fs =>
          simp only [partsOk,Bool.and_eq_true,bne_iff_ne,beq_iff_eq] at h
          obtain ⟨⟨⟨⟨hn,ho⟩,ha⟩,he⟩,hr⟩ := h
          simp only [dEqs] at hd
          cases hpx : pkZ xs off n with
          | none => simp [hpx] at hd
          | some x =>
            cases hpy : pkZ ys off n with
            | none => simp [hpx,hpy] at hd
            | some y =>
              simp only [hpx,hpy] at hd
              obtain ⟨x',hx1,hx2⟩ := hx.pick hpx
              obtain ⟨y',hy1,hy2⟩ := hy.pick hpy
              subst ho
              have p1 := snd_part (P := P) (w := w) ha hx1
              have p2 := snd_part (P := P) (w := w) ha hy1
              cases hq : dEq e x y with
              | none => simp [hq] at hd
              | some q =>
                have r1 := ih.1 e f.type x y x' y' q d he (by omega) hq hx2 hy2
                cases q with
                | false =>
                  simp [hq] at hd
                  subst hd
                  simp [Op.eqFields,hn,p1,p2,r1]
                | true =>
                  simp only [hq] at hd
                  have r2 := ih.2 ps fs xs ys xs' ys' b d hr (by omega) hd hx hy
                  simp [Op.eqFields,hn,p1,p2,r1,r2]
end
end Go.Proofs.YtccjlggpiliilaaGreatDoor.Ab

set_option linter.unusedVariables false
set_option linter.unusedSimpArgs false
namespace Go.Proofs.YtccjlggpiliilaaGreatDoor.Ab
open Go Go.RowKit
def constTypes (x y : Operand) : List TypeId := match x,y with
  | .const (.iface t _),_ => [t]
  | _,.const (.iface t _) => [t]
  | _,_ => []
def isK : Operand → Bool
  | .const _ => true
  | _ => false
def eqT (P : Program) : Nat → TypeId → Option EqT
  | 0,_ => none
  | d + 1,t => match P.underlying t with
    | some .bool => some .bool
    | some (.int _) => some .int
    | some .string => some .str
    | some (.pointer _) => some .ptr
    | some (.slice _) => some .slice
    | some (.map _ _) => some .map
    | some (.func _ _ _) => some .func
    | some (.struct fs) => (fs.toList.mapM fun f => (aggN P f.type).bind fun n => (eqT P d f.type).map fun e => (f.offset,n,e)).map .recd
    | _ => none
def fieldParts (P : Program) (fs : Array Field) (parts : List (Nat × Operand)) : Option (List (Nat × Nat × Operand)) :=
  parts.mapM fun p => (fs[p.1]?).bind fun f => (P.info? f.type).map fun i => (f.offset,i.size,p.2)
def resR1 (P : Program) (N : Nat) (o : Oper) : Option RO :=
  if o.op.operands.all (okX P N) then
    match o.op with
    | .move x => some (.mv x)
    | .assign x => some (.mv x)
    | .pick c a b => some (.pick c a b)
    | .load t x => match aggN P t with
      | some 0 => some (.ld x)
      | some n => some (.ldn n x)
      | none => none
    | .nilCheck x => some (.nck x)
    | .binOp op t x y _ =>
      if op == .eql || op == .neq then
        match P.underlying t with
        | some (.int _) => some (.bin op x y)
        | some .string => some (.bin op x y)
        | some (.interface _) => if (isK x || isK y) && eqOk P 9 (.iface (constTypes x y)) t then some (.eq (op == .neq) (.iface (constTypes x y)) x y) else none
        | _ => match eqT P 8 t with
          | some e => if eqOk P 9 e t && !P.eqGuardType P.depth t then some (.eq (op == .neq) e x y) else none
          | none => none
      else some (.bin op x y)
    | .unOp .not _ x => some (.not x)
    | .unOp .neg _ x => some (.neg x)
    | .unOp .xor _ x => some (.com x)
    | .convert s t x => match P.underlying s,P.underlying t with
      | some (.int _),some (.int k) => some (.cvi k x)
      | some .string,some .string => some (.cvs x)
      | some (.slice e),some .string => match P.underlying e with
        | some (.int .u8) => some (.b2s x)
        | _ => none
      | _,_ => none
    | .makeInterface t x => match P.underlying t with
      | some (.interface _) => none
      | some _ => some (.mki t x)
      | none => none
    | .makeFunc fn f c => some (.mkf fn f.toList c.toList)
    | .slice t x lo hi none => match P.underlying t with
      | some .string => some (.sls x lo hi)
      | some (.slice e) => match P.info? e with
        | some i => some (.sl i.size x lo hi)
        | none => none
      | some (.array n e) => match P.info? e with
        | some i => if n ≤ 1099511627776 then some (.sla n i.size x lo hi) else none
        | none => none
      | _ => none
    | .fieldAddr t x k => match P.underlying t with
      | some (.struct fs) => match fs[k]? with
        | some f => match P.info? f.type with
          | some i => if i.size = 0 then none else some (.fa f.offset x)
          | none => none
        | none => none
      | _ => none
    | .field t x k => match P.underlying t with
      | some (.struct fs) => match fs[k]? with
        | some f => match aggN P f.type with
          | some n => some (.fld f.offset n x)
          | none => none
        | none => none
      | _ => none
    | .indexAddr t x i => match P.underlying t with
      | some (.slice e) => match P.info? e with
        | some ei => some (.ia ei.size x i)
        | none => none
      | some (.array n e) => match P.info? e with
        | some ei => some (.iaa n ei.size x i)
        | none => none
      | _ => none
    | .index t x i => match P.underlying t with
      | some .string => some (.ixs x i)
      | some (.array n e) => match P.info? e,aggN P e with
        | some ei,some k => some (.ixa n ei.size k x i)
        | _,_ => none
      | _ => none
    | .extract x i => some (.ext i x)
    | .build t parts => match P.info? t,P.underlying t with
      | some it,some (.struct fs) => match it.zero,fs.toList.mapM (fun f => (P.info? f.type).map fun i => (f.offset,i.size)),fieldParts P fs parts.toList with
        | some z,some _,some ps => if plainV 6 z then some (.bld (cellsV z) ps) else none
        | _,_,_ => none
      | some it,some (.array _ e) => match it.zero,P.info? e with
        | some z,some ie => if plainV 6 z then some (.bld (cellsV z) (parts.toList.map fun p => (p.1 * ie.size,ie.size,p.2))) else none
        | _,_ => none
      | _,_ => none
    | .call { callee := .builtin .len,args,argTypes } => match args.toList,(argTypes[0]?).bind P.underlying with
      | [x],some .string => some (.lens x)
      | [x],some (.slice _) => some (.lenl x)
      | [_],some (.array n _) => some (.lenc n)
      | [_],some (.pointer arr) => match P.underlying arr with
        | some (.array n _) => some (.lenc n)
        | _ => none
      | _,_ => none
    | .call { callee := .builtin .min,args,.. } => match args.toList with
      | [x,y] => some (.mn x y)
      | _ => none
    | .call { callee := .builtin .max,args,.. } => match args.toList with
      | [x,y] => some (.mx x y)
      | _ => none
    | _ => none
  else none
theorem putAt_set (cs : List Value) (off : Nat) (v : Value) (vs : List Value) (h : off < cs.length) : putAt (cs.set off v) (off + 1) vs = putAt cs off (v :: vs) := by
  unfold putAt
  have h1 : (cs.set off v).take (off + 1) = cs.take off ++ [v] := by
    rw [List.take_succ_eq_append_getElem (by simpa using h)]
    have : (cs.set off v).take off = cs.take off := by
      apply List.ext_getElem?
      intro i
      simp only [List.getElem?_take]
      split
      · rw [List.getElem?_set_ne (by omega)]
      · rfl
    rw [this]
    simp
  have h2 : (cs.set off v).drop (off + 1 + vs.length) = cs.drop (off + (v :: vs).length) := by
    apply List.ext_getElem?
    intro i
    simp only [List.getElem?_drop,List.getElem?_set]
    rw [if_neg (by omega)]
    congr 1
    simp; omega
  rw [h1,h2]
  simp
theorem fold_put (off : Nat) : ∀ (vs : List Value) (k : Nat) (cs : List Value),off + k + vs.length ≤ cs.length →
    (vs.zipIdx k).foldl (fun (c : Array Value) (p : Value × Nat) => c.setIfInBounds (off + p.2) p.1) cs.toArray = (putAt cs (off + k) vs).toArray := by
  intro vs
  induction vs with
  | nil => intro k cs h; simp [putAt]
  | cons v vs ih =>
    intro k cs h
    simp only [List.length_cons] at h
    rw [List.zipIdx_cons,List.foldl_cons]
    show ((vs.zipIdx (k + 1)).foldl _ (cs.toArray.setIfInBounds (off + k) v)) = _
    rw [List.setIfInBounds_toArray,ih (k + 1) _ (by simp; omega),← Nat.add_assoc,putAt_set cs (off + k) v vs (by omega)]
section
variable {P : Program} {w0 w : World} {G : Loc} {m : Mem}
theorem VR.cells {v v' : Value} (h : VR G v v') : VRs G (cellsV v) v'.cells.toList := by
  cases h <;> first
    | exact .cons _ _ _ _ (by constructor <;> assumption) .nil
    | (rename_i c c' h; exact h)
theorem VRs.putAt {cs cs' vs vs' : List Value} (h : VRs G cs cs') (k : VRs G vs vs') (off : Nat) : VRs G (putAt cs off vs) (putAt cs' off vs') := by
  unfold Ab.putAt
  rw [k.length]
  exact ((h.take off).append k).append (h.drop _)
theorem fill_snd {N : Nat} {ts : Fr} {a : Act} (ha : AR G N ts a) (hs : St P w0 G m w) (place : Nat → Option (Nat × Nat)) :
    ∀ (parts : List (Nat × Operand)) (ps : List (Nat × Nat × Operand)),(parts.all fun p => okX P N p.2) = true →
      ps = parts.map (fun p => (((place p.1).getD (0,0)).1,((place p.1).getD (0,0)).2,p.2)) → (∀ p ∈ parts,(place p.1).isSome = true) →
      ∀ (cs cs' r : List Value),VRs G cs cs' → fiZ ts ps cs = some r → ∃ r',Instr.fill place ⟨cs'⟩ (parts.map fun p => (p.1,a.eval p.2)) = some ⟨r'⟩ ∧ VRs G r r' := by
  intro parts
  induction parts with
  | nil =>
    intro ps _ hps _ cs cs' r hc hf
    subst hps
    simp [fiZ] at hf
    subst hf
    exact ⟨cs',rfl,hc⟩
  | cons p parts ih =>
    intro ps hok hps hpl cs cs' r hc hf
    obtain ⟨i,x⟩ := p
    simp only [List.all_cons,Bool.and_eq_true] at hok
    have hp := hpl (i,x) (by simp)
    obtain ⟨⟨off,n⟩,hpi⟩ := Option.isSome_iff_exists.1 hp
    subst hps
    simp only [List.map_cons,hpi,Option.getD_some] at hf
    simp only [fiZ] at hf
    split at hf
    · rename_i hcond
      obtain ⟨hl,hle⟩ := hcond
      have hx := (ev_VR ha hs x hok.1).cells
      have hlen : (a.eval x).cells.toList.length = n := by rw [hx.length,hl]
      have hsz : (a.eval x).cells.size = n := by simpa using hlen
      obtain ⟨r',h1,h2⟩ := ih _ hok.2 rfl (fun p hp => hpl p (by simp [hp])) (Ab.putAt cs off (cellsV (ev ts x))) (Ab.putAt cs' off (a.eval x).cells.toList) r (hc.putAt hx off) hf
      refine ⟨r',?_,h2⟩
      have hfold := fold_put off (a.eval x).cells.toList 0 cs' (by rw [hc.length]; omega)
      simp only [List.map_cons,Instr.fill,hpi]
      rw [if_neg (by simp [hsz,hc.length]; omega)]
      rw [← Array.foldl_toList,Array.toList_zipIdx]
      simp only [Nat.add_zero] at hfold
      rw [hfold]
      exact h1
    · cases hf
end
end Go.Proofs.YtccjlggpiliilaaGreatDoor.Ab

set_option linter.unusedVariables false
set_option linter.unusedSimpArgs false
namespace Go.Proofs.YtccjlggpiliilaaGreatDoor.Ab
open Go Go.RowKit
section
variable {P : Program} {w0 w : World} {G : Loc} {m : Mem}
theorem snd_eqop {N : Nat} {ts : Fr} {a : Act} (ha : AR G N ts a) (hs : St P w0 G m w) (neg : Bool) (t : TypeId) (e : EqT) (x y : Operand) (hx : okX P N x = true) (hy : okX P N y = true) (he : eqOk P 9 e t = true)
    (hns : P.underlying t ≠ some .string) (hni : ∀ k,P.underlying t ≠ some (.int k))
    (hg : ∀ b,dEq e (ev ts x) (ev ts y) = some b → (eqGuard (if neg then .neq else .eql) t x y (a.eval x) (a.eval y)).run P w = .ok () w) {v : Value} (h : dR ts m (.eq neg e x y) = some v) :
    ∃ v',((do eqGuard (if neg then .neq else .eql) t x y (a.eval x) (a.eval y); binOp (if neg then .neq else .eql) t (a.eval x) (a.eval y)) : Sem Value).run P w = .ok v' w ∧ VR G v v' := by
  simp only [dR] at h
  split at h
  · rename_i b hb
    have hv := ev_VR ha hs x hx
    have hw := ev_VR ha hs y hy
    have hr := (snd_eq (P := P) (w := w) (G := G) 9).1 e t _ _ _ _ b 10000 he (by omega) hb hv hw
    have hgd := hg b hb
    simp at h
    refine ⟨v,?_,by rw [← h]; exact .bool _⟩
    simp only [Sem.run_bind,hgd,Result.andThen_ok]
    have key : ∀ x' y',VR G (ev ts x) x' → VR G (ev ts y) y' → (Op.equalIn 10000 t x' y').run P w = .ok b w → (binOp (if neg then .neq else .eql) t x' y').run P w = .ok v w := by
      intro x' y' h1 h2 h3
      have h4 : (Op.equal t x' y').run P w = .ok b w := h3
      generalize ev ts x = X at *
      generalize ev ts y = Y at *
      unfold dEq at hb
      split at hb <;> first | (simp at hb; done) | skip
      all_goals (try (simp [eqOk] at he; done))
      all_goals first
        | (cases h1; cases h2; cases hu : P.underlying t with
            | none => simp [eqOk,hu] at he
            | some u => cases u <;> simp [eqOk,hu] at he <;> first | exact (hni _ hu).elim | exact (hns hu).elim)
        | (cases h1 <;> cases h2 <;> cases neg <;> simp [binOp,h4,← h])
    exact key _ _ hv hw hr
  · cases h
theorem okX_of {N : Nat} {xs : Array Operand} (h : xs.all (okX P N) = true) : ∀ x ∈ xs.toList,okX P N x = true := by
  rw [← Array.all_toList,List.all_eq_true] at h
  exact h
theorem mapM_get {α β : Type} (f : α → Option β) : ∀ (l : List α) (r : List β),l.mapM f = some r → r.length = l.length ∧ ∀ (i : Nat) (x : α),l[i]? = some x → ∃ y,f x = some y ∧ r[i]? = some y
  | [],r,h => by simp at h; subst h; simp
  | x :: l,r,h => by
    simp only [List.mapM_cons,Option.bind_eq_bind,Option.pure_def] at h
    cases hx : f x with
    | none => simp [hx] at h
    | some y =>
      cases hl : l.mapM f with
      | none => simp [hx,hl] at h
      | some r' =>
        simp [hx,hl] at h
        subst h
        obtain ⟨h1,h2⟩ := mapM_get f l r' hl
        refine ⟨by simp [h1],fun i z hz => ?_⟩
        cases i with
        | zero => simp at hz; subst hz; exact ⟨y,hx,by simp⟩
        | succ i => simp at hz; simpa using h2 i z hz
theorem cells_plain (z : Value) (h : plainV 6 z = true) : VRs G (cellsV z) z.cells.toList := VR.cells (VR.plain 6 z h)
set_option maxHeartbeats 4000000 in
theorem resR1_snd {N : Nat} {ts : Fr} {a : Act} {o : Oper} {r : RO} {v : Value} (hr : resR1 P N o = some r) (ha : AR G N ts a) (hs : St P w0 G m w) (hd : dR ts m r = some v) :
    ∃ v',(execOp a.eval o).run P w = .ok (.value v') w ∧ VR G v v' := by
  obtain ⟨dst,op,ty,pos,after,guard⟩ := o
  unfold resR1 at hr
  split at hr
  case isFalse => cases hr
  rename_i hok0
  have hok := okX_of hok0
  clear hok0
  have hE : ∀ x,okX P N x = true → VR G (ev ts x) (a.eval x) := fun x hx => ev_VR ha hs x hx
  cases op <;> simp only [Op.operands] at hok hr <;> try (cases hr; done)
  case move x =>
    simp at hr; subst hr
    simp [dR] at hd; subst hd
    exact ⟨a.eval x,by simp [execOp],hE x (hok x (by simp))⟩
  case assign x =>
    simp at hr; subst hr
    simp [dR] at hd; subst hd
    exact ⟨a.eval x,by simp [execOp],hE x (hok x (by simp))⟩
  case pick c x y =>
    simp at hr; subst hr
    have hc := hE c (hok c (by simp))
    simp only [dR] at hd
    split at hd
    · rename_i he
      rw [he] at hc; simp at hd; subst hd
      exact ⟨a.eval x,by simp only [execOp]; generalize a.eval c = z at hc; cases hc; simp [asBool],hE x (hok x (by simp))⟩
    · rename_i he
      rw [he] at hc; simp at hd; subst hd
      exact ⟨a.eval y,by simp only [execOp]; generalize a.eval c = z at hc; cases hc; simp [asBool],hE y (hok y (by simp))⟩
    · cases hd
  case load t x =>
    have hx := hE x (hok x (by simp))
    split at hr
    · rename_i h0
      simp at hr; subst hr
      simp only [dR] at hd
      split at hd
      · rename_i i o he
        rw [he] at hx
        obtain ⟨v',h1,h2⟩ := snd_ld h0 hs hx hd
        exact ⟨v',by simp [execOp,h1],h2⟩
      · cases hd
    · rename_i n hn0 h0
      simp at hr; subst hr
      simp only [dR] at hd
      split at hd
      · rename_i i o he
        rw [he] at hx
        split at hd
        · rename_i cs hc
          simp at hd; subst hd
          obtain ⟨v',h1,h2⟩ := snd_ldn hn0 h0 hs hx hc
          exact ⟨v',by simp [execOp,h1],h2⟩
        · cases hd
      · cases hd
    · cases hr
  case nilCheck x =>
    simp at hr; subst hr
    have hx := hE x (hok x (by simp))
    simp only [dR] at hd
    split at hd <;> first | (cases hd; done) | skip
    all_goals
      rename_i he
      rw [he] at hx
      simp at hd; subst hd
      refine ⟨a.eval x,?_,hx⟩
      simp only [execOp]
      generalize a.eval x = z at hx
      cases hx <;> simp
  case binOp op t x y yt =>
    have hx := hE x (hok x (by simp))
    have hy := hE y (hok y (by simp))
    have hbin : ∀ v,dBin op (ev ts x) (ev ts y) = some v → ∃ v',(execOp a.eval ⟨dst,.binOp op t x y yt,ty,pos,after,guard⟩).run P w = .ok (.value v') w ∧ VR G v v' := by
      intro v hd
      have h0 := dBin_run (P := P) (w := w) t hd
      have hv : VR G v v := by
        unfold dBin at hd
        split at hd
        · split at hd
          · split at hd <;> simp at hd; subst hd; exact .int _ _
          · split at hd <;> simp at hd; subst hd; exact .int _ _
          · split at hd
            · split at hd <;> first | (simp at hd; subst hd; first | exact .int _ _ | exact .bool _) | (simp at hd; obtain ⟨_,rfl⟩ := hd; exact .int _ _) | (cases hd; done)
            · cases hd
        · split at hd
          · split at hd <;> simp at hd; subst hd; exact .str _
          all_goals first | (simp at hd; subst hd; exact .bool _) | (cases hd; done)
        · cases hd
      refine ⟨v,?_,hv⟩
      simp only [execOp]
      generalize ev ts x = X at *
      generalize ev ts y = Y at *
      unfold dBin at hd
      split at hd
      · generalize a.eval x = z at hx
        generalize a.eval y = z' at hy
        cases hx; cases hy
        simp [eqGuard_at_int,h0]
      · generalize a.eval x = z at hx
        generalize a.eval y = z' at hy
        cases hx; cases hy
        simp [eqGuard_at_string,h0]
      · cases hd
    split at hr
    · rename_i hop
      have hgb : ∀ (neg : Bool),op = (if neg then .neq else .eql) → ∀ e,eqOk P 9 e t = true → P.underlying t ≠ some .string → (∀ k,P.underlying t ≠ some (.int k)) →
          (∀ b,dEq e (ev ts x) (ev ts y) = some b → (eqGuard (if neg then .neq else .eql) t x y (a.eval x) (a.eval y)).run P w = .ok () w) → dR ts m (.eq neg e x y) = some v →
          ∃ v',(execOp a.eval ⟨dst,.binOp op t x y yt,ty,pos,after,guard⟩).run P w = .ok (.value v') w ∧ VR G v v' := by
        intro neg hneg e he h1 h2 h3 h4
        obtain ⟨v',h5,h6⟩ := snd_eqop ha hs neg t e x y (hok x (by simp)) (hok y (by simp)) he h1 h2 h3 h4
        refine ⟨v',?_,h6⟩
        subst hneg
        simp only [execOp]
        rw [Sem.run_bind,h5]
        rfl
      have hn : op = (if (op == BinOp.neq) then .neq else .eql) := by cases op <;> simp at hop <;> rfl
      split at hr
      · simp at hr; subst hr; exact hbin v hd
      · simp at hr; subst hr; exact hbin v hd
      · rename_i ms hu
        split at hr
        · rename_i hc
          simp only [Bool.and_eq_true] at hc
          simp at hr; subst hr
          refine hgb _ hn _ hc.2 (by rw [hu]; simp) (by rw [hu]; simp) (fun b hb => ?_) hd
          have hk := hc.1
          generalize ev ts x = X at *
          generalize ev ts y = Y at *
          rw [← hn]
          unfold dEq at hb
          split at hb <;> first | (cases hb; done) | skip
          all_goals (try (rename_i he; cases he; done))
          · generalize hzx : a.eval x = z at hx
            generalize hzy : a.eval y = z' at hy
            cases hx; cases hy
            cases x <;> cases y <;> simp [isK] at hk <;> first | (rw [eqGuard_nil_constR]; rfl) | (rw [eqGuard_nil_constL]; rfl)
          · generalize a.eval x = z at hx
            generalize a.eval y = z' at hy
            cases hx; cases hy
            rw [eqGuard_nil_iface]; rfl
          all_goals
            generalize a.eval x = z at hx
            generalize a.eval y = z' at hy
            cases hx; cases hy
            rw [eqGuard_at_iface]; rfl
        · cases hr
      · rename_i hu1 hu2 hu3
        split at hr
        · rename_i e hee
          split at hr
          · rename_i hc
            simp only [Bool.and_eq_true,Bool.not_eq_true'] at hc
            simp at hr; subst hr
            refine hgb _ hn _ hc.1 (fun e' => hu2 e') (fun k e' => hu1 k e') (fun b hb => ?_) hd
            generalize hX : ev ts x = X at *
            generalize hY : ev ts y = Y at *
            unfold dEq at hb
            split at hb <;> first | (cases hb; done) | skip
            all_goals (try (cases hut : P.underlying t with
              | none => simp [eqOk,hut] at hc
              | some u => cases u <;> simp [eqOk,hut] at hc <;> exact (hu3 _ hut).elim))
            all_goals
              generalize a.eval x = z at hx
              generalize a.eval y = z' at hy
            all_goals first
              | (cases hx; rw [eqGuard_at_bool]; rfl)
              | (cases hx; rw [eqGuard_at_int]; rfl)
              | (cases hx; rw [eqGuard_at_string]; rfl)
              | (cases hx; rw [eqGuard_at_pointer]; rfl)
              | (cases hx <;> rw [eqGuard_at_slice] <;> rfl)
              | (cases hx; rw [eqGuard_at_map]; rfl)
              | (cases hx; rw [eqGuard_at_nilFunc]; rfl)
              | (cases hx; rw [eqGuard_at_func]; rfl)
              | (cases hx; cases hy; exact run_eqGuard_agg w _ _ _ _ _ _ hc.2)
          · cases hr
        · cases hr
    · simp at hr; subst hr; exact hbin v hd
  case unOp op t x =>
    have hx := hE x (hok x (by simp))
    cases op <;> simp only [] at hr <;> first | (cases hr; done) | skip
    case not =>
      simp at hr; subst hr
      simp only [dR] at hd
      split at hd
      · rename_i b he
        rw [he] at hx; simp at hd; subst hd
        exact ⟨.bool (!b),by simp only [execOp]; generalize a.eval x = z at hx; cases hx; simp [Op.unary],.bool _⟩
      · cases hd
    case neg =>
      simp at hr; subst hr
      simp only [dR] at hd
      split at hd
      · rename_i k n he
        rw [he] at hx; simp at hd; subst hd
        exact ⟨.int k (k.wrap (-n)),by simp only [execOp]; generalize a.eval x = z at hx; cases hx; simp [Op.unary,Op.intArith],.int _ _⟩
      · cases hd
    case xor =>
      simp at hr; subst hr
      simp only [dR] at hd
      split at hd
      · rename_i k n he
        rw [he] at hx; simp only [Option.some.injEq] at hd; subst hd
        exact ⟨_,by simp only [execOp]; generalize a.eval x = z at hx; cases hx; rfl,.int _ _⟩
      · cases hd
  case convert s t x =>
    have hx := hE x (hok x (by simp))
    split at hr
    · rename_i k' k h1 h2
      simp at hr; subst hr
      simp only [dR] at hd
      split at hd
      · rename_i q n he
        rw [he] at hx; simp at hd; subst hd
        refine ⟨.int k (k.wrap n),?_,.int _ _⟩
        simp only [execOp]
        generalize a.eval x = z at hx
        cases hx
        simp [convert,run_underlying h1,run_underlying h2,Conv.intToInt]
      · cases hd
    · rename_i h1 h2
      simp at hr; subst hr
      simp only [dR] at hd
      split at hd
      · rename_i q he
        rw [he] at hx; simp at hd; subst hd
        refine ⟨.string q,?_,.str _⟩
        simp only [execOp]
        generalize a.eval x = z at hx
        cases hx
        simp [convert,run_underlying h1,run_underlying h2]
      · cases hd
    · rename_i e h1 h2
      split at hr
      · rename_i h3
        simp at hr; subst hr
        obtain ⟨v',h4,h5⟩ := snd_b2s ha hs h1 h3 h2 (hok x (by simp)) hd
        exact ⟨v',by simp [execOp,h4],h5⟩
      · cases hr
    · cases hr
  case makeInterface t x =>
    have hx := hE x (hok x (by simp))
    split at hr
    · cases hr
    · rename_i d hnd hu
      simp at hr; subst hr
      simp [dR] at hd; subst hd
      refine ⟨.iface t (a.eval x),?_,.iface _ _ _ hx⟩
      have hc : P.concrete t = true := by
        unfold Program.concrete
        rw [hu]
        cases d <;> first | rfl | exact (hnd _ rfl).elim
      simp only [execOp]
      rw [Sem.run_bind,run_makeInterface w t _ hc]
      rfl
    · cases hr
  case makeFunc fn f c =>
    simp at hr; subst hr
    simp [dR] at hd; subst hd
    refine ⟨.func fn (f.map a.eval) (c.map a.eval),by simp [execOp,Instr.makeFunc],?_⟩
    have key : ∀ (l : List Operand),(∀ x ∈ l,okX P N x = true) → VRs G (l.map (ev ts)) (l.map a.eval) := by
      intro l
      induction l with
      | nil => exact fun _ => .nil
      | cons x l ih => exact fun hl => .cons _ _ _ _ (hE x (hl x (by simp))) (ih fun y hy => hl y (by simp [hy]))
    have h1 := key f.toList fun x hx => hok x (by simp; exact .inl (by simpa using hx))
    have h2 := key c.toList fun x hx => hok x (by simp; exact .inr (by simpa using hx))
    have e1 : f.map a.eval = ⟨f.toList.map a.eval⟩ := by apply Array.ext'; simp
    have e2 : c.map a.eval = ⟨c.toList.map a.eval⟩ := by apply Array.ext'; simp
    rw [e1,e2]
    exact VR.func fn _ _ _ _ h1 h2
  case slice t x lo hi mx =>
    cases mx with
    | some z => simp at hr
    | none =>
      have hx := hok x (by simp)
      have hlo : lo.all (okX P N) = true := by
        cases lo with
        | none => rfl
        | some y => exact hok y (by simp)
      have hhi : hi.all (okX P N) = true := by
        cases hi with
        | none => rfl
        | some y => exact hok y (by simp)
      simp only [] at hr
      split at hr
      · rename_i hu
        simp at hr; subst hr
        obtain ⟨v',h1,h2⟩ := snd_sls ha hs hu hx hlo hhi hd
        exact ⟨v',by simp [execOp,h1],h2⟩
      · rename_i e hu
        split at hr
        · rename_i ei hi'
          simp at hr; subst hr
          obtain ⟨v',h1,h2⟩ := snd_sl ha hs hu hi' hx hlo hhi hd
          exact ⟨v',by simp [execOp,h1],h2⟩
        · cases hr
      · rename_i n e hu
        split at hr
        · rename_i ei hi'
          split at hr
          · rename_i hn
            simp at hr; subst hr
            obtain ⟨v',h1,h2⟩ := snd_sla ha hs hu hi' (by unfold maxLen; omega) hx hlo hhi hd
            exact ⟨v',by simp [execOp,h1],h2⟩
          · cases hr
        · cases hr
      · cases hr
  case fieldAddr t x k =>
    have hx := hE x (hok x (by simp))
    split at hr
    · rename_i fs hu
      split at hr
      · rename_i f hf
        split at hr
        · rename_i i hi
          split at hr
          · cases hr
          · rename_i hz
            simp at hr; subst hr
            simp only [dR] at hd
            split at hd
            · rename_i b o he
              rw [he] at hx; simp at hd; subst hd
              obtain ⟨v',h1,h2⟩ := snd_fa (P := P) (w := w) hu hf hi hz hx
              exact ⟨v',by simp [execOp,h1],h2⟩
            · cases hd
        · cases hr
      · cases hr
    · cases hr
  case field t x k =>
    have hx := hE x (hok x (by simp))
    split at hr
    · rename_i fs hu
      split at hr
      · rename_i f hf
        split at hr
        · rename_i n hn
          simp at hr; subst hr
          simp only [dR] at hd
          split at hd
          · rename_i cs he
            rw [he] at hx
            obtain ⟨v',h1,h2⟩ := snd_fld (P := P) (w := w) hu hf hn hx hd
            exact ⟨v',by simp [execOp,h1],h2⟩
          · cases hd
        · cases hr
      · cases hr
    · cases hr
  case indexAddr t x i =>
    have hx := hE x (hok x (by simp))
    have hi := hE i (hok i (by simp))
    split at hr
    · rename_i e hu
      split at hr
      · rename_i ei hei
        simp at hr; subst hr
        simp only [dR] at hd
        split at hd
        · rename_i b o n c k j he hj
          rw [he] at hx; rw [hj] at hi
          split at hd
          · rename_i hb
            simp at hd; subst hd
            obtain ⟨v',h1,h2⟩ := snd_ia (P := P) (w := w) hu hei hx hi hb.1 hb.2
            exact ⟨v',by simp [execOp,h1],h2⟩
          · cases hd
        · cases hd
      · cases hr
    · rename_i n e hu
      split at hr
      · rename_i ei hei
        simp at hr; subst hr
        simp only [dR] at hd
        split at hd
        · rename_i b o k j he hj
          rw [he] at hx; rw [hj] at hi
          split at hd
          · rename_i hb
            simp at hd; subst hd
            obtain ⟨v',h1,h2⟩ := snd_iaa (P := P) (w := w) hu hei hx hi hb.1 hb.2
            exact ⟨v',by simp [execOp,h1],h2⟩
          · cases hd
        · cases hd
      · cases hr
    · cases hr
  case index t x i =>
    have hx := hE x (hok x (by simp))
    have hi := hE i (hok i (by simp))
    split at hr
    · rename_i hu
      simp at hr; subst hr
      simp only [dR] at hd
      split at hd
      · rename_i s k j he hj
        rw [he] at hx; rw [hj] at hi
        obtain ⟨v',h1,h2⟩ := snd_ixs (P := P) (w := w) hu hx hi hd
        exact ⟨v',by simp [execOp,h1],h2⟩
      · cases hd
    · rename_i n e hu
      split at hr
      · rename_i ei k hei hk
        simp at hr; subst hr
        simp only [dR] at hd
        split at hd
        · rename_i cs q j he hj
          rw [he] at hx; rw [hj] at hi
          split at hd
          · rename_i hb
            obtain ⟨v',h1,h2⟩ := snd_ixa (P := P) (w := w) hu hk hei hx hi hb.1 hb.2 hd
            exact ⟨v',by simp [execOp,h1],h2⟩
          · cases hd
        · cases hd
      · cases hr
    · cases hr
  case extract x i =>
    simp at hr; subst hr
    have hx := hE x (hok x (by simp))
    simp only [dR] at hd
    split at hd
    · rename_i vs he
      rw [he] at hx
      simp only [execOp]
      generalize a.eval x = z at hx
      cases hx with
      | tuple c c' h =>
        obtain ⟨v',h1,h2⟩ := h.get _ _ hd
        exact ⟨v',by simp [Instr.extract,h1],h2⟩
    · cases hd
  case build t parts =>
    have hokp : (parts.toList.all fun p => okX P N p.2) = true := by
      rw [List.all_eq_true]
      intro p hp
      exact hok p.2 (by simp; exact ⟨p.1,by simpa using hp⟩)
    have emap : ((parts.map fun (i,x) => (i,a.eval x)).toList) = parts.toList.map fun p => (p.1,a.eval p.2) := by simp
    split at hr
    · rename_i it fs hit hu
      split at hr
      · rename_i z places ps hz hpl hps
        split at hr
        · rename_i hpz
          simp at hr; subst hr
          simp only [dR] at hd
          split at hd
          · rename_i cs hf
            simp at hd; subst hd
            obtain ⟨hl1,hg1⟩ := mapM_get _ _ _ hpl
            obtain ⟨hl2,hg2⟩ := mapM_get _ _ _ hps
            have hpl' : ∀ p ∈ parts.toList,∃ f i,fs[p.1]? = some f ∧ P.info? f.type = some i ∧ places.toArray[p.1]? = some (f.offset,i.size) := by
              intro p hp
              obtain ⟨j,hj⟩ := List.getElem?_of_mem hp
              obtain ⟨y,hy1,hy2⟩ := hg2 j p hj
              cases hfp : fs[p.1]? with
              | none => simp [hfp] at hy1
              | some f =>
                obtain ⟨q,hq1,hq2⟩ := hg1 p.1 f (by simpa using hfp)
                cases hi : P.info? f.type with
                | none => simp [hi] at hq1
                | some i =>
                  simp [hi] at hq1
                  exact ⟨f,i,rfl,hi,by simp [hq2,hq1]⟩
            have hps' : ps = parts.toList.map (fun p => (((places.toArray[p.1]?).getD (0,0)).1,((places.toArray[p.1]?).getD (0,0)).2,p.2)) := by
              apply List.ext_getElem?
              intro j
              cases hj : parts.toList[j]? with
              | none =>
                have : ps[j]? = none := by rw [List.getElem?_eq_none_iff] at hj ⊢; omega
                rw [this,List.getElem?_map,hj]; rfl
              | some p =>
                obtain ⟨y,hy1,hy2⟩ := hg2 j p hj
                obtain ⟨f,i,h1,h2,h3⟩ := hpl' p (List.mem_of_getElem? hj)
                simp [h1,h2] at hy1
                have h3' : places[p.1]? = some (f.offset,i.size) := by simpa using h3
                rw [hy2,List.getElem?_map,hj,← hy1]
                simp [h3']
            obtain ⟨r',hr1,hr2⟩ := fill_snd ha hs (places.toArray[·]?) parts.toList ps hokp hps' (fun p hp => by obtain ⟨f,i,_,_,h3⟩ := hpl' p hp; simp [h3]) _ z.cells.toList cs (cells_plain z hpz) hf
            refine ⟨.agg ⟨r'⟩,?_,.agg _ _ hr2⟩
            have hb : P.built t ((parts.map fun (i,x) => (i,a.eval x)).toList) = some ⟨r'⟩ := by
              rw [emap]
              unfold Program.built
              simp only [hit,hu,hz,hpl]
              exact hr1
            simp only [execOp]
            rw [Sem.run_bind,run_build w t _ _ hb]
            rfl
          · cases hd
        · cases hr
      · cases hr
    · rename_i it n e hit hu
      split at hr
      · rename_i z ie hz hie
        split at hr
        · rename_i hpz
          simp at hr; subst hr
          simp only [dR] at hd
          split at hd
          · rename_i cs hf
            simp at hd; subst hd
            obtain ⟨r',hr1,hr2⟩ := fill_snd ha hs (fun i => some (i * ie.size,ie.size)) parts.toList _ hokp (by simp) (fun p hp => rfl) _ z.cells.toList cs (cells_plain z hpz) hf
            refine ⟨.agg ⟨r'⟩,?_,.agg _ _ hr2⟩
            have hb : P.built t ((parts.map fun (i,x) => (i,a.eval x)).toList) = some ⟨r'⟩ := by
              rw [emap]
              unfold Program.built
              simp only [hit,hu,hz,hie]
              exact hr1
            simp only [execOp]
            rw [Sem.run_bind,run_build w t _ _ hb]
            rfl
          · cases hd
        · cases hr
      · cases hr
    · cases hr
  case call c =>
    obtain ⟨cal,args,argT⟩ := c
    cases cal with
    | value f => simp at hr
    | invoke r mm => simp at hr
    | builtin b =>
      simp only [Call.operands] at hok
      cases b <;> simp only [] at hr <;> first | (cases hr; done) | skip
      case len =>
        have hty : ∀ d,(argT[0]?).bind P.underlying = some d → ∃ t,argT[0]? = some t ∧ P.underlying t = some d := by
          intro d h
          cases ht : argT[0]? with
          | none => simp [ht] at h
          | some t => exact ⟨t,rfl,by simpa [ht] using h⟩
        have harg : ∀ x,args.toList = [x] → args = #[x] := fun x h => by apply Array.ext'; simpa using h
        split at hr
        · rename_i x hargs hu
          obtain ⟨t,ht,hu⟩ := hty _ hu
          obtain rfl := harg x hargs
          simp at hr; subst hr
          have hx := hE x (hok x (by simp))
          simp only [dR] at hd
          split at hd
          · rename_i s he
            rw [he] at hx; simp at hd; subst hd
            refine ⟨_,?_,.int _ _⟩
            simp only [execOp,resolve,Sem.run_bind,Sem.run_pure,Result.andThen_ok,invoke,builtin,List.map_toArray,List.map_cons,List.map_nil]
            generalize a.eval x = z at hx
            cases hx
            simp [Builtin.len_,ht,run_underlying hu,goInt]
          · cases hd
        · rename_i x e hargs hu
          obtain ⟨t,ht,hu⟩ := hty _ hu
          obtain rfl := harg x hargs
          simp at hr; subst hr
          have hx := hE x (hok x (by simp))
          simp only [dR] at hd
          split at hd
          · rename_i q n c he
            rw [he] at hx; simp at hd; subst hd
            refine ⟨_,?_,.int _ _⟩
            simp only [execOp,resolve,Sem.run_bind,Sem.run_pure,Result.andThen_ok,invoke,builtin,List.map_toArray,List.map_cons,List.map_nil]
            generalize a.eval x = z at hx
            cases hx <;> simp [Builtin.len_,ht,run_underlying hu,goInt]
          · cases hd
        · rename_i x n e hargs hu
          obtain ⟨t,ht,hu⟩ := hty _ hu
          obtain rfl := harg x hargs
          simp at hr; subst hr
          simp [dR] at hd; subst hd
          refine ⟨_,?_,.int _ _⟩
          simp only [execOp,resolve,Sem.run_bind,Sem.run_pure,Result.andThen_ok,invoke,builtin,List.map_toArray,List.map_cons,List.map_nil]
          simp [Builtin.len_,ht,run_underlying hu,goInt]
        · rename_i x arr hargs hu
          obtain ⟨t,ht,hu⟩ := hty _ hu
          obtain rfl := harg x hargs
          split at hr
          · rename_i n e ha2
            simp at hr; subst hr
            simp [dR] at hd; subst hd
            refine ⟨_,?_,.int _ _⟩
            simp only [execOp,resolve,Sem.run_bind,Sem.run_pure,Result.andThen_ok,invoke,builtin,List.map_toArray,List.map_cons,List.map_nil]
            simp [Builtin.len_,ht,run_underlying hu,run_underlying ha2,goInt]
          · cases hr
        · cases hr
      case min =>
        split at hr
        · rename_i x y hargs
          obtain rfl : args = #[x,y] := by apply Array.ext'; simpa using hargs
          simp at hr; subst hr
          have hx := hE x (hok x (by simp))
          have hy := hE y (hok y (by simp))
          simp only [dR] at hd
          split at hd
          · rename_i k p q r he1 he2
            rw [he1] at hx; rw [he2] at hy; simp only [Option.some.injEq] at hd; subst hd
            refine ⟨_,?_,.int _ _⟩
            simp only [execOp,resolve,Sem.run_bind,Sem.run_pure,Result.andThen_ok,invoke,builtin,List.map_toArray,List.map_cons,List.map_nil]
            generalize a.eval x = z at hx
            generalize a.eval y = z' at hy
            cases hx; cases hy
            simp [Builtin.min_,Builtin.min2]
          · cases hd
        · cases hr
      case max =>
        split at hr
        · rename_i x y hargs
          obtain rfl : args = #[x,y] := by apply Array.ext'; simpa using hargs
          simp at hr; subst hr
          have hx := hE x (hok x (by simp))
          have hy := hE y (hok y (by simp))
          simp only [dR] at hd
          split at hd
          · rename_i k p q r he1 he2
            rw [he1] at hx; rw [he2] at hy; simp only [Option.some.injEq] at hd; subst hd
            refine ⟨_,?_,.int _ _⟩
            simp only [execOp,resolve,Sem.run_bind,Sem.run_pure,Result.andThen_ok,invoke,builtin,List.map_toArray,List.map_cons,List.map_nil]
            generalize a.eval x = z at hx
            generalize a.eval y = z' at hy
            cases hx; cases hy
            simp [Builtin.max_,Builtin.max2]
          · cases hd
        · cases hr
end
end Go.Proofs.YtccjlggpiliilaaGreatDoor.Ab

set_option linter.unusedVariables false
set_option linter.unusedSimpArgs false
namespace Go.Proofs.YtccjlggpiliilaaGreatDoor.Ab
open Go Go.RowKit
def intTs (P : Program) : List TypeId := (List.range P.types.size).filter fun u => (match P.info? u with | some i => i.comparable | none => false) && (match P.underlying u with | some (.int _) => true | _ => false)
def pairK (P : Program) (e : TypeId) : Bool := (match P.underlying e with | some (.int _) => true | _ => false) && (match P.info? e with | some j => j.size == 1 | none => false)
def resR2 (P : Program) (N : Nat) (o : Oper) : Option RO :=
  if o.op.operands.all (okX P N) then
    match o.op with
    | .convert s t x => match P.underlying s,P.underlying t with
      | some (.pointer e),some .unsafePointer => match P.info? e with
        | some j => if j.size = 0 then none else some (.cvp x)
        | none => none
      | some .unsafePointer,some (.pointer u) => match P.info? u with
        | some j => if j.size = 0 then none else some (.cvu u j.size x)
        | none => none
      | some (.int _),some .string => some (.i2s x)
      | _,_ => none
    | .binOp op t x y _ =>
      if op == .eql || op == .neq then
        match P.underlying t with
        | some (.interface _) => if eqOk P 9 (.iface (intTs P)) t then some (.ieq (op == .neq) (intTs P) x y) else none
        | _ => none
      else none
    | .typeAssert x xt t ok => match P.underlying t with
      | some (.interface _) => none
      | some _ => match P.info? t with
        | some i => match i.zero with
          | some z => if plainV 6 z then some (.tas t z ok x) else none
          | none => none
        | none => none
      | none => none
    | .lookup xt x i ok => match P.underlying xt with
      | some (.map k e) => match P.info? e with
        | some j => match j.zero with
          | some z => if plainV 6 z then (match P.underlying k with
            | some (.int _) => some (.lku 0 ok z x i)
            | some .string => some (.lku 1 ok z x i)
            | some (.array 2 ke) => if pairK P ke then some (.lku 2 ok z x i) else none
            | _ => none) else none
          | none => none
        | none => none
      | _ => none
    | .call { callee := .builtin .cap,args,argTypes } => match args.toList,argTypes.toList with
      | [x],[t] => match P.underlying t with
        | some (.slice _) => some (.capn x)
        | _ => none
      | _,_ => none
    | .call { callee := .builtin .unsafeSliceData,args,.. } => match args.toList with
      | [x] => some (.usd x)
      | _ => none
    | .entry x => some (.ent x)
    | _ => none
  else none
section
variable {P : Program} {w0 w : World} {G : Loc} {m : Mem}
theorem liesAt_at {e : TypeId} (count off n : Nat) (hz : P.cellsOf e ≠ 0) (hr : off % P.cellsOf e = 0) (hn : off / P.cellsOf e + n ≤ count) : liesAt P P.depth e count off e n = true := by
  have hd : P.depth = (2 * (P.types.size + Made.depth) + 1) + 1 := rfl
  rw [hd]
  simp only [liesAt,Bool.or_eq_true]
  left
  rw [hd]
  simp [rowAt,hz,hr,hn,sameLayout]
theorem own_real (hs : St P w0 G m w) {i B b S : Nat} {cs : List Value} {e : TypeId} (hg : G i = some (B,b,S)) (h : m.get i = .own cs e) :
    ∃ c fz,w.heap[B]? = some (.cells c e fz) ∧ (∀ (j : Nat) (v : Value),cs[j]? = some v → ∃ v',c[b + j]? = some v' ∧ VR G v v') ∧ (0 < cs.length → b + cs.length ≤ c.size) := by
  obtain ⟨B',b',S',g',r⟩ := hs.ent i (by rw [h]; simp)
  rw [hg] at g'
  cases g'
  rw [h] at r
  obtain ⟨h0,c,fz,h1,h2,h3,h4⟩ := r
  refine ⟨c,fz,h1,h4,fun hp => ?_⟩
  obtain ⟨v',hv,_⟩ := h4 (cs.length - 1) cs[cs.length - 1] (by simp)
  have := (Array.getElem?_eq_some_iff.1 hv).1
  omega
theorem snd_cvp {N : Nat} {ts : Fr} {a : Act} (ha : AR G N ts a) (hs : St P w0 G m w) {s t e : TypeId} {j : TypeInfo} (h1 : P.underlying s = some (.pointer e)) (h2 : P.underlying t = some .unsafePointer) (hj : P.info? e = some j) (hz : j.size ≠ 0) {x : Operand} (hx : okX P N x = true) {v : Value}
    (h : dR ts m (.cvp x) = some v) : ∃ v',(convert s t (a.eval x)).run P w = .ok v' w ∧ VR G v v' := by
  have vx := ev_VR ha hs x hx
  simp only [dR] at h
  split at h
  · rename_i hq
    rw [hq] at vx
    simp at h; subst h
    generalize a.eval x = X at *
    cases vx
    exact ⟨.pointer none,by simp [convert,run_underlying h1,run_underlying h2,Conv.unsafePointer],.nilp⟩
  · rename_i i o hq
    rw [hq] at vx
    split at h
    case h_2 => cases h
    rename_i cs e' hown
    split at h
    case isFalse => cases h
    rename_i hlt
    simp at h; subst h
    generalize a.eval x = X at *
    cases vx with
    | ptr _ _ B b S hg =>
      obtain ⟨c,fz,hw,hc,hl⟩ := own_real hs hg hown
      have hl := hl (by omega)
      have hsh : w.shape? B = some (e',c.size) := by simp [World.shape?,hw]
      exact ⟨_,Lib.run_to_unsafe (P := P) w ⟨B,b + o,none⟩ h1 h2 hj hz hsh (by show b + o < c.size; omega),.ptr _ _ _ _ _ hg⟩
  · cases h
theorem snd_cvu {N : Nat} {ts : Fr} {a : Act} (ha : AR G N ts a) (hs : St P w0 G m w) {s t u : TypeId} {j : TypeInfo} (h1 : P.underlying s = some .unsafePointer) (h2 : P.underlying t = some (.pointer u)) (hj : P.info? u = some j) (hz : j.size ≠ 0) {x : Operand} (hx : okX P N x = true) {v : Value}
    (h : dR ts m (.cvu u j.size x) = some v) : ∃ v',(convert s t (a.eval x)).run P w = .ok v' w ∧ VR G v v' := by
  have vx := ev_VR ha hs x hx
  have hcu : P.cellsOf u = j.size := by simp [Program.cellsOf,hj]
  simp only [dR] at h
  split at h
  · rename_i hq
    rw [hq] at vx
    simp at h; subst h
    generalize a.eval x = X at *
    cases vx
    exact ⟨.pointer none,by simp [convert,run_underlying h1,run_underlying h2,Conv.unsafePointer],.nilp⟩
  · rename_i i o hq
    rw [hq] at vx
    split at h
    case h_2 => cases h
    rename_i cs e' hown
    split at h
    case isFalse => cases h
    rename_i hcond
    obtain ⟨rfl,hom,hle⟩ := hcond
    simp at h; subst h
    generalize a.eval x = X at *
    cases vx with
    | ptr _ _ B b S hg =>
      obtain ⟨c,fz,hw,hc,hl⟩ := own_real hs hg hown
      have hl := hl (by omega)
      have hal := hs.ali _ _ _ _ _ _ hown hg
      have hsh : w.shape? B = some (e',c.size) := by simp [World.shape?,hw]
      have hmod : (b + o) % j.size = 0 := by rw [hcu] at hal; rw [Nat.add_mod,hal,hom]; simp
      have hlies : liesAt P P.depth e' (c.size / P.cellsOf e') (b + o) e' 1 = true := by
        refine liesAt_at _ _ _ (by rw [hcu]; exact hz) (by rw [hcu]; exact hmod) ?_
        rw [hcu]
        have hd : (b + o) / j.size * j.size = b + o := Nat.div_mul_cancel (Nat.dvd_of_mod_eq_zero hmod)
        rw [Nat.le_div_iff_mul_le (by omega),Nat.add_mul,hd]
        omega
      exact ⟨_,Lib.run_from_unsafe (P := P) w ⟨B,b + o,none⟩ h1 h2 hj hsh hlies,.ptr _ _ _ _ _ hg⟩
  · cases h
theorem snd_usd {N : Nat} {ts : Fr} {a : Act} (ha : AR G N ts a) (hs : St P w0 G m w) {ats : Array TypeId} {ty : TypeId} {x : Operand} (hx : okX P N x = true) {v : Value}
    (h : dR ts m (.usd x) = some v) : ∃ v',(Builtin.unsafeSliceData_ ats ty #[a.eval x]).run P w = .ok v' w ∧ VR G v v' := by
  have vx := ev_VR ha hs x hx
  simp only [dR] at h
  split at h
  · rename_i n c hq
    rw [hq] at vx
    simp at h; subst h
    generalize a.eval x = X at *
    cases vx
    exact ⟨.pointer none,rfl,.nilp⟩
  · rename_i i o n c hq
    rw [hq] at vx
    split at h
    case isFalse => cases h
    rename_i hlt
    simp at h; subst h
    generalize a.eval x = X at *
    cases vx with
    | sl _ _ B b S _ cp _ hg hn hc hS =>
      exact ⟨_,Lib.run_unsafeSliceData_row (P := P) w ats ty ⟨B,b + o,none⟩ n cp (by omega),.ptr _ _ _ _ _ hg⟩
  · cases h
def kdIs (kk : Nat) (d : TypeDesc) : Prop := if kk = 1 then d = .string else kk = 0 ∧ ∃ k,d = .int k
def kdP (P : Program) (kk : Nat) (d : TypeDesc) : Prop := kdIs kk d ∨ kk = 2 ∧ ∃ e,d = .array 2 e ∧ pairK P e = true
theorem keyIs_snd {kk : Nat} {b : Bool} {d : TypeDesc} (hd : kdIs kk d) {x y x' y' : Value} (h : keyIs kk x y = some b) (hx : VR G x x') (hy : VR G y y') : Instr.sameNow d x' y' = some b ∧ x' = x ∧ (b = true → x' = y') ∧ flatV x = true := by
  unfold keyIs at h
  split at h
  · split at h
    case isFalse => cases h
    rename_i hc
    obtain ⟨rfl,rfl⟩ := hc
    cases hx; cases hy
    simp only [kdIs,Nat.zero_ne_one,if_false] at hd
    obtain ⟨-,k,rfl⟩ := hd
    simp at h
    refine ⟨by simp [Instr.sameNow,h],rfl,fun hb => ?_,rfl⟩
    rw [hb] at h
    simp at h; rw [h]
  · split at h
    case isFalse => cases h
    rename_i hc
    subst hc
    cases hx; cases hy
    have hd : d = .string := hd
    subst hd
    rename_i s t
    simp only [Option.some.injEq] at h
    have e : (s == t) = (s.data.toList == t.data.toList) := by
      have e0 : (s == t) = (s.data == t.data) := rfl
      rw [e0,Bool.eq_iff_iff,beq_iff_eq,beq_iff_eq]
      exact Array.toList_inj.symm
    refine ⟨by simp only [Instr.sameNow,e,h],rfl,fun hb => ?_,rfl⟩
    rw [hb] at h
    have h9 := beq_iff_eq.1 h
    have : s = t := by apply ByteArray.ext; exact Array.toList_inj.1 h9
    rw [this]
  · split at h
    · rename_i hc
      obtain ⟨rfl,-⟩ := hc
      unfold kdIs at hd
      simp at hd
    · cases h
  · cases h
theorem mapFind_snd {kk : Nat} {d : TypeDesc} (hd : kdIs kk d) {k k' : Value} (hk : VR G k k') : ∀ (es es' : List MapEntry) (i : Nat) (r : Option (Nat × Value)),VRs G (es.map (·.key)) (es'.map (·.key)) → VRs G (es.map (·.val)) (es'.map (·.val)) → mapFind kk k es i = some r →
    (r = none ∧ Instr.findNow d k' es' i = some none) ∨ ∃ j v v' e',r = some (i + j,v) ∧ Instr.findNow d k' es' i = some (some (i + j,v')) ∧ VR G v v' ∧ es'[j]? = some e' ∧ e'.key = k' ∧ flatV k = true
  | [],[],i,r,_,_,h => by
    simp [mapFind] at h; subst h
    exact .inl ⟨rfl,rfl⟩
  | [],_ :: _,i,r,hks,_,_ => by cases hks
  | _ :: _,[],i,r,hks,_,_ => by cases hks
  | e :: es,e' :: es',i,r,hks,hvs,h => by
    simp only [List.map_cons] at hks hvs
    cases hks with
    | cons _ _ _ _ hk1 hks =>
    cases hvs with
    | cons _ _ _ _ hv1 hvs =>
    simp only [mapFind] at h
    split at h
    · rename_i hq
      obtain ⟨a1,a2,a3,a4⟩ := keyIs_snd hd hq hk hk1
      simp at h; subst h
      exact .inr ⟨0,e.val,e'.val,e',rfl,by simp [Instr.findNow,a1],hv1,rfl,(a3 rfl).symm,a4⟩
    · rename_i hq
      obtain ⟨a1,a2,_,_⟩ := keyIs_snd hd hq hk hk1
      rcases mapFind_snd hd hk es es' (i + 1) r hks hvs h with ⟨h1,h2⟩ | ⟨j,v,v',e2,h1,h2,h3,h4,h5,h6⟩
      · exact .inl ⟨h1,by simp [Instr.findNow,a1,h2]⟩
      · exact .inr ⟨j + 1,v,v',e2,by rw [h1]; congr 2; omega,by simp only [Instr.findNow,a1,h2]; congr 3; omega,h3,by simpa using h4,h5,h6⟩
    · cases h
theorem map_get (hs : St P w0 G m w) {i : Nat} {es : List MapEntry} {cl : Nat} (h : m.get i = .map es cl) {B S : Nat} (hg : G i = some (B,0,S)) :
    ∃ es' : List MapEntry,w.heap[B]? = some (.map es'.toArray cl) ∧ es'.map (·.born) = es.map (·.born) ∧ VRs G (es.map (·.key)) (es'.map (·.key)) ∧ VRs G (es.map (·.val)) (es'.map (·.val)) := by
  obtain ⟨B',b',S',g',r⟩ := hs.ent i (by rw [h]; simp)
  rw [hg] at g'
  cases g'
  rw [h] at r
  exact r.2.2
theorem checkKey_kd1 {kk : Nat} {kt : TypeId} {d : TypeDesc} (hu : P.underlying kt = some d) (hd : kdIs kk d) (b : Bool) (v : Value) (n : Nat) : (Instr.checkKey b (n + 1) kt v).run P w = .ok () w := by
  unfold kdIs at hd
  split at hd
  · subst hd; simp [Instr.checkKey,run_underlying hu]
  · obtain ⟨-,k,rfl⟩ := hd; simp [Instr.checkKey,run_underlying hu]
theorem checkKey_kd {kk : Nat} {kt : TypeId} {d : TypeDesc} (hu : P.underlying kt = some d) (hd : kdIs kk d) (b : Bool) (v : Value) : (Instr.checkKey b 10000 kt v).run P w = .ok () w := checkKey_kd1 hu hd b v 9999
theorem findKey_kd {kt : TypeId} {d : TypeDesc} (hu : P.underlying kt = some d) {k : Value} {es : List MapEntry} {r : Option (Nat × Value)} (h : Instr.findNow d k es 0 = some r) : (Instr.findKey kt k es).run P w = .ok r w := by
  simp [Instr.findKey,run_underlying hu,h]
theorem pairK_spec {e : TypeId} (h : pairK P e = true) : ∃ k j,P.underlying e = some (.int k) ∧ P.info? e = some j ∧ j.size = 1 := by
  unfold pairK at h
  simp only [Bool.and_eq_true] at h
  obtain ⟨h1,h2⟩ := h
  split at h1
  · rename_i k hk
    split at h2
    · rename_i j hj
      exact ⟨k,j,hk,hj,by simpa using h2⟩
    · cases h2
  · cases h1
theorem part_int {e : TypeId} {k : IntKind} (hk : P.underlying e = some (.int k)) (cs : Array Value) (o : Nat) (v : Value) (hv : cs[o]? = some v) : (part e cs o).run P w = .ok v w := by
  simp [part,isAgg,run_underlying hk,hv]
theorem checkKey_pair1 {kt e : TypeId} (hu : P.underlying kt = some (.array 2 e)) (he : pairK P e = true) (b : Bool) (x y : Value) (n : Nat) : (Instr.checkKey b (n + 2) kt (.agg #[x,y])).run P w = .ok () w := by
  obtain ⟨k,j,hk,hj,hs⟩ := pairK_spec he
  have p0 := part_int (P := P) (w := w) hk #[x,y] 0 x rfl
  have p1 := part_int (P := P) (w := w) hk #[x,y] 1 y rfl
  have q : ∀ v,(Instr.checkKey b (n + 1) e v).run P w = .ok () w := fun v => checkKey_kd1 (kk := 0) hk ⟨rfl,k,rfl⟩ b v n
  rw [Instr.checkKey]
  simp only [Sem.run_bind,run_underlying hu,Result.andThen_ok]
  simp [Std.Legacy.Range.forIn_eq_forIn_range',Std.Legacy.Range.size,List.range',run_sizeOf hj,hs,p0,p1,q]
theorem checkKey_pair {kt e : TypeId} (hu : P.underlying kt = some (.array 2 e)) (he : pairK P e = true) (b : Bool) (x y : Value) : (Instr.checkKey b 10000 kt (.agg #[x,y])).run P w = .ok () w := checkKey_pair1 hu he b x y 9998
theorem equal_pair {kt e : TypeId} (hu : P.underlying kt = some (.array 2 e)) (he : pairK P e = true) {k1 k2 : IntKind} {a b c d : Int} : (Op.equal kt (.agg #[.int k1 a,.int k2 c]) (.agg #[.int k1 b,.int k2 d])).run P w = .ok (a == b && c == d) w := by
  obtain ⟨k,j,hk,hj,hs⟩ := pairK_spec he
  have p0 := part_int (P := P) (w := w) hk #[.int k1 a,.int k2 c] 0 (.int k1 a) rfl
  have p1 := part_int (P := P) (w := w) hk #[.int k1 a,.int k2 c] 1 (.int k2 c) rfl
  have p2 := part_int (P := P) (w := w) hk #[.int k1 b,.int k2 d] 0 (.int k1 b) rfl
  have p3 := part_int (P := P) (w := w) hk #[.int k1 b,.int k2 d] 1 (.int k2 d) rfl
  obtain ⟨D,hD⟩ : ∃ D,Op.maxDepth = D + 2 := ⟨Op.maxDepth - 2,by decide⟩
  have q1 := run_equalIn_int (P := P) w D e k1 k a b hk
  have q2 := run_equalIn_int (P := P) w D e k2 k c d hk
  unfold Op.equal
  rw [hD]
  rw [Op.equalIn]
  simp only [Sem.run_bind,run_underlying hu,Result.andThen_ok]
  cases hab : (a == b) <;> cases hcd : (c == d) <;> simp [Std.Legacy.Range.forIn_eq_forIn_range',Std.Legacy.Range.size,List.range',run_sizeOf hj,hs,p0,p1,p2,p3,q1,q2,hab,hcd]
theorem findAsk {kt e : TypeId} (hu : P.underlying kt = some (.array 2 e)) (he : pairK P e = true) {k : Value} : ∀ (es es' : List MapEntry) (i : Nat) (r : Option (Nat × Value)),VRs G (es.map (·.key)) (es'.map (·.key)) → VRs G (es.map (·.val)) (es'.map (·.val)) → mapFind 2 k es i = some r →
    (r = none ∧ (Instr.findAsking kt k es' i).run P w = .ok none w) ∨ ∃ j v v' e',r = some (i + j,v) ∧ (Instr.findAsking kt k es' i).run P w = .ok (some (i + j,v')) w ∧ VR G v v' ∧ es'[j]? = some e' ∧ e'.key = k
  | [],[],i,r,_,_,h => by
    simp [mapFind] at h; subst h
    exact .inl ⟨rfl,by simp [Instr.findAsking]⟩
  | [],_ :: _,i,r,hks,_,_ => by cases hks
  | _ :: _,[],i,r,hks,_,_ => by cases hks
  | x :: es,x' :: es',i,r,hks,hvs,h => by
    simp only [List.map_cons] at hks hvs
    cases hks with
    | cons _ _ _ _ hk1 hks =>
    cases hvs with
    | cons _ _ _ _ hv1 hvs =>
    have key : ∀ b,keyIs 2 k x.key = some b → (Op.equal kt k x'.key).run P w = .ok b w ∧ (b = true → x'.key = k) := by
      intro b hb
      unfold keyIs at hb
      split at hb
      · simp at hb
      · simp at hb
      · rename_i k1 a k2 c k3 b' k4 d' hx
        split at hb
        case isFalse => cases hb
        rename_i hc
        obtain ⟨-,rfl,rfl⟩ := hc
        rw [hx] at hk1
        generalize x'.key = Y at hk1
        cases hk1 with
        | agg _ _ hl => cases hl with
          | cons _ _ _ _ h1 hl => cases hl with
            | cons _ _ _ _ h2 hl =>
              cases hl; cases h1; cases h2
              simp only [Option.some.injEq] at hb
              refine ⟨by rw [equal_pair hu he,hb],fun hb' => ?_⟩
              rw [hb'] at hb
              simp only [Bool.and_eq_true,beq_iff_eq] at hb
              rw [hb.1,hb.2]
      · cases hb
    simp only [mapFind] at h
    split at h
    · rename_i hq
      obtain ⟨a1,a2⟩ := key _ hq
      simp at h; subst h
      exact .inr ⟨0,x.val,x'.val,x',rfl,by simp [Instr.findAsking,a1],hv1,rfl,a2 rfl⟩
    · rename_i hq
      obtain ⟨a1,-⟩ := key _ hq
      rcases findAsk hu he es es' (i + 1) r hks hvs h with ⟨h1,h2⟩ | ⟨j,v,v',e2,h1,h2,h3,h4,h5⟩
      · exact .inl ⟨h1,by simp [Instr.findAsking,a1,h2]⟩
      · exact .inr ⟨j + 1,v,v',e2,by rw [h1]; congr 2; omega,by simp only [Instr.findAsking,Sem.run_bind,a1,Result.andThen_ok]; rw [show i + (j + 1) = i + 1 + j from by omega]; exact h2,h3,by simpa using h4,h5⟩
    · cases h
theorem aggP_real {k k' : Value} (h : aggP k = true) (hv : VR G k k') : k' = k ∧ ∃ a b c d,k = .agg #[.int a b,.int c d] := by
  unfold aggP at h
  split at h
  · rename_i a b c d
    cases hv with
    | agg _ _ hl => cases hl with
      | cons _ _ _ _ h1 hl => cases hl with
        | cons _ _ _ _ h2 hl =>
          cases hl; cases h1; cases h2
          exact ⟨rfl,a,b,c,d,rfl⟩
  · cases h
theorem find_run {kk : Nat} {kt : TypeId} {d : TypeDesc} (hu : P.underlying kt = some d) (hd : kdP P kk d) {k k' : Value} (hp : decide (kk < 2) = true ∨ aggP k = true) (hk : VR G k k') {es es' : List MapEntry} {r : Option (Nat × Value)} (h1 : VRs G (es.map (·.key)) (es'.map (·.key))) (h2 : VRs G (es.map (·.val)) (es'.map (·.val))) (h : mapFind kk k es 0 = some r) :
    (r = none ∧ (Instr.findKey kt k' es').run P w = .ok none w) ∨ ∃ j v v' e',r = some (j,v) ∧ (Instr.findKey kt k' es').run P w = .ok (some (j,v')) w ∧ VR G v v' ∧ es'[j]? = some e' ∧ e'.key = k' ∧ k' = k := by
  rcases hd with hd | ⟨rfl,e,rfl,he⟩
  · rcases mapFind_snd hd hk es es' 0 _ h1 h2 h with ⟨e1,e2⟩ | ⟨j,v,v',e',e1,e2,e3,e4,e5,e6⟩
    · exact .inl ⟨e1,findKey_kd hu e2⟩
    · simp only [Nat.zero_add] at e1 e2
      exact .inr ⟨j,v,v',e',e1,findKey_kd hu e2,e3,e4,e5,by cases hk <;> first | rfl | (simp [flatV] at e6; done)⟩
  · have hp : aggP k = true := hp.resolve_left (by decide)
    obtain ⟨rfl,-⟩ := aggP_real hp hk
    have hfk : (Instr.findKey kt k' es').run P w = (Instr.findAsking kt k' es' 0).run P w := by
      cases es' with
      | nil => simp [Instr.findKey,run_underlying hu,Instr.findNow,Instr.findAsking]
      | cons x l => simp [Instr.findKey,run_underlying hu,Instr.findNow,Instr.sameNow]
    rw [hfk]
    rcases findAsk hu he es es' 0 _ h1 h2 h with ⟨e1,e2⟩ | ⟨j,v,v',e',e1,e2,e3,e4,e5⟩
    · exact .inl ⟨e1,e2⟩
    · simp only [Nat.zero_add] at e1 e2
      exact .inr ⟨j,v,v',e',e1,e2,e3,e4,e5,rfl⟩
theorem check_run {kk : Nat} {kt : TypeId} {d : TypeDesc} (hu : P.underlying kt = some d) (hd : kdP P kk d) {k k' : Value} (hp : decide (kk < 2) = true ∨ aggP k = true) (hk : VR G k k') (b : Bool) : (Instr.checkKey b 10000 kt k').run P w = .ok () w := by
  rcases hd with hd | ⟨rfl,e,rfl,he⟩
  · exact checkKey_kd hu hd b k'
  · have hp : aggP k = true := hp.resolve_left (by decide)
    obtain ⟨rfl,a,b',c,d,rfl⟩ := aggP_real hp hk
    exact checkKey_pair hu he b _ _
theorem snd_lku {N : Nat} {ts : Fr} {a : Act} (ha : AR G N ts a) (hs : St P w0 G m w) {kk : Nat} {ok : Bool} {mt kt e : TypeId} {d : TypeDesc} {j : TypeInfo} {z : Value} (hm : P.underlying mt = some (.map kt e)) (hu : P.underlying kt = some d) (hd : kdP P kk d) (hj : P.info? e = some j) (hz : j.zero = some z) (hp : plainV 6 z = true)
    {x y : Operand} (hx : okX P N x = true) (hy : okX P N y = true) {v : Value} (h : dR ts m (.lku kk ok z x y) = some v) : ∃ v',(Instr.lookup mt (a.eval x) (a.eval y) ok).run P w = .ok v' w ∧ VR G v v' := by
  have vx := ev_VR ha hs x hx
  have vy := ev_VR ha hs y hy
  have vz := VR.plain (G := G) 6 z hp
  simp only [dR] at h
  generalize a.eval x = X at *
  generalize a.eval y = Y at *
  have tup : ∀ {u u' : Value} {b : Bool},VR G u u' → VR G (if ok = true then Value.tuple ⟨[u,.bool b]⟩ else u) (if ok = true then Value.tuple #[u',.bool b] else u') := by
    intro u u' b hu'
    cases ok
    · exact hu'
    · exact .tuple _ _ (.cons _ _ _ _ hu' (.cons _ _ _ _ (.bool b) .nil))
  split at h
  · rename_i hq
    rw [hq] at vx
    split at h
    case isFalse => cases h
    rename_i hpp
    simp at h; subst h
    cases vx
    refine ⟨_,?_,tup (b := false) vz⟩
    have hc := check_run (P := P) (w := w) hu hd hpp vy true
    rcases find_run (P := P) (w := w) hu hd hpp vy (es := []) (es' := []) .nil .nil rfl with ⟨-,hf⟩ | ⟨j',v2,v',e',e1,-⟩
    · simp [Instr.lookup,run_underlying hm,hc,hf,zeroValue,typeInfo,hj,hz]
    · cases e1
  · rename_i r hq
    rw [hq] at vx
    split at h
    case isFalse => cases h
    rename_i hpp
    split at h
    case h_2 => cases h
    rename_i es cl hr
    cases vx with
    | map _ B S hg =>
    obtain ⟨es',h1,h2,h3,h4⟩ := map_get hs hr hg
    have hc := check_run (P := P) (w := w) hu hd hpp vy es'.isEmpty
    have hgo : (getObj B).run P w = .ok (.map es'.toArray cl) w := by simp [getObj,Sem.run,h1]
    split at h
    · rename_i i v1 hf
      simp at h; subst h
      rcases find_run (P := P) (w := w) hu hd hpp vy h3 h4 hf with ⟨e1,_⟩ | ⟨j',v2,v',e',e1,e2,e3,_⟩
      · cases e1
      · simp at e1
        obtain ⟨rfl,rfl⟩ := e1
        refine ⟨_,?_,tup (b := true) e3⟩
        simp [Instr.lookup,run_underlying hm,hgo,hc,e2]
    · rename_i hf
      simp at h; subst h
      rcases find_run (P := P) (w := w) hu hd hpp vy h3 h4 hf with ⟨e1,e2⟩ | ⟨j',v2,v',e',e1,e2,e3,_⟩
      · refine ⟨_,?_,tup (b := false) vz⟩
        simp [Instr.lookup,run_underlying hm,hgo,hc,e2,zeroValue,typeInfo,hj,hz]
      · cases e1
    · cases h
  · cases h
theorem snd_ent {N : Nat} {ts : Fr} {a : Act} (ha : AR G N ts a) (hs : St P w0 G m w) {x : Operand} (hx : okX P N x = true) {v : Value} (h : dR ts m (.ent x) = some v) : ∃ v',(Instr.entry (a.eval x)).run P w = .ok v' w ∧ VR G v v' := by
  have vx := ev_VR ha hs x hx
  simp only [dR] at h
  generalize a.eval x = X at *
  split at h
  case h_2 => cases h
  rename_i i hq
  rw [hq] at vx
  split at h
  case h_2 => cases h
  rename_i q since seen last hi
  split at h
  case h_2 => cases h
  rename_i es cl st hm hst
  split at h
  case isFalse => cases h
  rename_i hcl
  subst hcl
  split at h
  case h_2 => cases h
  rename_i e he
  simp at h; subst h
  cases vx with
  | ptr _ _ B b S hg =>
  obtain ⟨B',b',S',g',r⟩ := hs.ent i (by rw [hi]; simp)
  rw [hg] at g'
  cases g'
  rw [hi] at r
  obtain ⟨-,rfl,r',hw,hr'⟩ := r
  cases hr' with
  | map _ Bm Sm hgm =>
  obtain ⟨es',h1,h2,h3,h4⟩ := map_get hs hm hgm
  have hgo : (getObj B).run P w = .ok (.mapIter (some Bm) since seen.toArray cl) w := by simp [getObj,Sem.run,hw]
  have hgm' : (getObj Bm).run P w = .ok (.map es'.toArray cl) w := by simp [getObj,Sem.run,h1]
  have fnd : ∀ (l l' : List MapEntry),l'.map (·.born) = l.map (·.born) → VRs G (l.map (·.key)) (l'.map (·.key)) → VRs G (l.map (·.val)) (l'.map (·.val)) → l.find? (·.born == st) = some e → ∃ e',l'.find? (·.born == st) = some e' ∧ VR G e.key e'.key ∧ VR G e.val e'.val := by
    intro l
    induction l with
    | nil => intro l' _ _ _ h; cases h
    | cons x l ih =>
      intro l' hb hk hv hf
      cases l' with
      | nil => simp at hb
      | cons y l' =>
        simp only [List.map_cons,List.cons.injEq] at hb hk hv
        cases hk with
        | cons _ _ _ _ k1 k2 => cases hv with
          | cons _ _ _ _ v1 v2 =>
            rw [List.find?_cons] at hf
            cases hx : (x.born == st) with
            | true =>
              rw [hx] at hf
              simp at hf; subst hf
              exact ⟨y,by simp [List.find?_cons,hb.1,hx],k1,v1⟩
            | false =>
              rw [hx] at hf
              obtain ⟨e',f1,f2,f3⟩ := ih l' hb.2 k2 v2 hf
              exact ⟨e',by simp [List.find?_cons,hb.1,hx,f1],f2,f3⟩
  obtain ⟨e',f1,f2,f3⟩ := fnd es es' h2 h3 h4 he
  refine ⟨.tuple #[e'.key,e'.val],?_,.tuple _ _ (.cons _ _ _ _ f2 (.cons _ _ _ _ f3 .nil))⟩
  have hb : seen.toArray.back? = some st := by simpa using hst
  have hf : es'.toArray.find? (fun x => x.born == st) = some e' := by rw [← Array.find?_toList]; exact f1
  simp only [Instr.entry,Nat.zero_add]
  simp [hgo,hgm',hb,hf]
theorem resR2_snd {N : Nat} {ts : Fr} {a : Act} {o : Oper} {r : RO} {v : Value} (hr : resR2 P N o = some r) (ha : AR G N ts a) (hs : St P w0 G m w) (hd : dR ts m r = some v) :
    ∃ v',(execOp a.eval o).run P w = .ok (.value v') w ∧ VR G v v' := by
  obtain ⟨dst,op,ty,pos,after,guard⟩ := o
  unfold resR2 at hr
  split at hr
  case isFalse => cases hr
  rename_i hok0
  have hok := okX_of hok0
  clear hok0
  have hE : ∀ x,okX P N x = true → VR G (ev ts x) (a.eval x) := fun x hx => ev_VR ha hs x hx
  cases op <;> simp only [Op.operands] at hok hr <;> try (cases hr; done)
  case convert s t x =>
    have hx := hok x (by simp)
    split at hr
    · rename_i e h1 h2
      split at hr
      case h_2 => cases hr
      rename_i j hj
      split at hr
      case isTrue => cases hr
      rename_i hz
      simp at hr; subst hr
      obtain ⟨v',h3,h4⟩ := snd_cvp ha hs h1 h2 hj hz hx hd
      exact ⟨v',by simp [execOp,h3],h4⟩
    · rename_i u h1 h2
      split at hr
      case h_2 => cases hr
      rename_i j hj
      split at hr
      case isTrue => cases hr
      rename_i hz
      simp at hr; subst hr
      obtain ⟨v',h3,h4⟩ := snd_cvu ha hs h1 h2 hj hz hx hd
      exact ⟨v',by simp [execOp,h3],h4⟩
    · rename_i k h1 h2
      simp at hr; subst hr
      have vx := hE x hx
      simp only [dR] at hd
      split at hd
      · rename_i q n he
        rw [he] at vx; simp at hd; subst hd
        refine ⟨.string (Utf8.encode n),?_,.str _⟩
        simp only [execOp]
        generalize a.eval x = z at vx
        cases vx
        simp [convert,run_underlying h1,run_underlying h2,Conv.intToString]
      · cases hd
    · cases hr
  case binOp op t x y yt =>
    split at hr
    case isFalse => cases hr
    rename_i hop
    split at hr
    case h_2 => cases hr
    rename_i ms hu
    split at hr
    case isFalse => cases hr
    rename_i hc
    simp at hr; subst hr
    have hx := hE x (hok x (by simp))
    have hy := hE y (hok y (by simp))
    simp only [dR] at hd
    split at hd
    case isTrue => cases hd
    rename_i hbn
    have hn : op = (if (op == BinOp.neq) then .neq else .eql) := by cases op <;> simp at hop <;> rfl
    obtain ⟨v',h5,h6⟩ := snd_eqop ha hs (op == BinOp.neq) t (.iface (intTs P)) x y (hok x (by simp)) (hok y (by simp)) hc (by rw [hu]; simp) (by rw [hu]; simp) (fun b hb => by
      rw [← hn]
      generalize ev ts x = X at *
      generalize ev ts y = Y at *
      unfold dEq at hb
      split at hb <;> first | (cases hb; done) | skip
      all_goals (try (rename_i he; cases he; done))
      · simp [bothNil] at hbn
      · generalize a.eval x = z at hx
        generalize a.eval y = z' at hy
        cases hx; cases hy
        rw [eqGuard_nil_iface]; rfl
      all_goals
        generalize a.eval x = z at hx
        generalize a.eval y = z' at hy
        cases hx; cases hy
        rw [eqGuard_at_iface]; rfl) hd
    refine ⟨v',?_,h6⟩
    rw [← hn] at h5
    simp only [execOp]
    rw [Sem.run_bind,h5]
    rfl
  case lookup xt x i ok =>
    split at hr
    case h_2 => cases hr
    rename_i kt e hm
    split at hr
    case h_2 => cases hr
    rename_i j hj
    split at hr
    case h_2 => cases hr
    rename_i z hz
    split at hr
    case isFalse => cases hr
    rename_i hp
    split at hr
    · rename_i k hu
      simp at hr; subst hr
      obtain ⟨v',h3,h4⟩ := snd_lku ha hs hm hu (kk := 0) (.inl ⟨rfl,k,rfl⟩) hj hz hp (hok x (by simp)) (hok i (by simp)) hd
      exact ⟨v',by simp [execOp,h3],h4⟩
    · rename_i hu
      simp at hr; subst hr
      obtain ⟨v',h3,h4⟩ := snd_lku ha hs hm hu (kk := 1) (.inl rfl) hj hz hp (hok x (by simp)) (hok i (by simp)) hd
      exact ⟨v',by simp [execOp,h3],h4⟩
    · rename_i ke hu
      split at hr
      case isFalse => cases hr
      rename_i hke
      simp at hr; subst hr
      obtain ⟨v',h3,h4⟩ := snd_lku ha hs hm hu (kk := 2) (.inr ⟨rfl,ke,rfl,hke⟩) hj hz hp (hok x (by simp)) (hok i (by simp)) hd
      exact ⟨v',by simp [execOp,h3],h4⟩
    · cases hr
  case entry x =>
    simp at hr; subst hr
    obtain ⟨v',h3,h4⟩ := snd_ent ha hs (hok x (by simp)) hd
    exact ⟨v',by simp [execOp,h3],h4⟩
  case typeAssert x xt t ok =>
    have vx := hE x (hok x (by simp))
    split at hr
    · cases hr
    · rename_i d hnd hu
      split at hr
      case h_2 => cases hr
      rename_i i hi
      split at hr
      case h_2 => cases hr
      rename_i z hz
      split at hr
      case isFalse => cases hr
      rename_i hp
      simp at hr; subst hr
      have hzz : (zeroValue t).run P w = .ok z w := by simp [zeroValue,typeInfo,hi,hz]
      have hnd' : ∀ ms,d ≠ .interface ms := fun ms e => hnd ms e
      have zf : VR G (.tuple ⟨[z,.bool false]⟩) (.tuple #[z,.bool false]) := .tuple _ _ (.cons _ _ _ _ (VR.plain 6 z hp) (.cons _ _ _ _ (.bool false) .nil))
      simp only [dR] at hd
      split at hd
      · rename_i he
        rw [he] at vx
        split at hd
        case isFalse => cases hd
        rename_i hk
        simp at hd; subst hd
        refine ⟨_,?_,zf⟩
        simp only [execOp]
        generalize a.eval x = X at *
        cases vx
        cases d <;> first
          | exact (hnd' _ rfl).elim
          | simp [Instr.typeAssert,run_underlying hu,hk,hzz]
      · rename_i d' v0 he
        rw [he] at vx
        split at hd
        · rename_i hdt
          simp at hd; subst hd hdt
          generalize hX : a.eval x = X at *
          cases vx with
          | iface _ _ v' hv =>
            cases ok with
            | true =>
              refine ⟨.tuple #[v',.bool true],?_,.tuple _ _ (.cons _ _ _ _ hv (.cons _ _ _ _ (.bool true) .nil))⟩
              simp only [execOp,hX]
              cases d <;> first
                | exact (hnd' _ rfl).elim
                | simp [Instr.typeAssert,run_underlying hu]
            | false =>
              refine ⟨v',?_,hv⟩
              simp only [execOp,hX]
              cases d <;> first
                | exact (hnd' _ rfl).elim
                | simp [Instr.typeAssert,run_underlying hu]
        · rename_i hdt
          split at hd
          case isFalse => cases hd
          rename_i hk
          simp at hd; subst hd
          refine ⟨_,?_,zf⟩
          simp only [execOp]
          generalize a.eval x = X at *
          cases vx
          cases d <;> first
            | exact (hnd' _ rfl).elim
            | simp [Instr.typeAssert,run_underlying hu,hk,hzz,hdt]
      · cases hd
    · cases hr
  case call c =>
    obtain ⟨cal,args,argT⟩ := c
    cases cal with
    | value f => simp at hr
    | invoke r mm => simp at hr
    | builtin b =>
      simp only [Call.operands] at hok
      cases b <;> simp only [] at hr <;> first | (cases hr; done) | skip
      case cap =>
        split at hr
        case h_2 => cases hr
        rename_i x t hargs hty
        split at hr
        case h_2 => cases hr
        rename_i e hu
        obtain rfl : args = #[x] := by apply Array.ext'; simpa using hargs
        obtain rfl : argT = #[t] := by apply Array.ext'; simpa using hty
        simp at hr; subst hr
        have hx := hE x (hok x (by simp))
        simp only [dR] at hd
        split at hd
        · rename_i n c he
          rw [he] at hx; simp at hd; subst hd
          refine ⟨.int .i64 0,?_,.int _ _⟩
          simp only [execOp,resolve,Sem.run_bind,Sem.run_pure,Result.andThen_ok,invoke,builtin,List.map_toArray,List.map_cons,List.map_nil]
          generalize a.eval x = z at hx
          cases hx
          simp [Builtin.cap_,run_underlying hu,goInt]
        · cases hd
      case unsafeSliceData =>
        split at hr
        case h_2 => cases hr
        rename_i x hargs
        obtain rfl : args = #[x] := by apply Array.ext'; simpa using hargs
        simp at hr; subst hr
        obtain ⟨v',h1,h2⟩ := snd_usd (ats := argT) (ty := ty) ha hs (hok x (by simp)) hd
        refine ⟨v',?_,h2⟩
        simp only [execOp,resolve,Sem.run_bind,Sem.run_pure,Result.andThen_ok,invoke,builtin,List.map_toArray,List.map_cons,List.map_nil]
        rw [h1]
        rfl
def resR (P : Program) (N : Nat) (o : Oper) : Option RO := match resR1 P N o with
  | some r => some r
  | none => resR2 P N o
theorem resR_snd {N : Nat} {ts : Fr} {a : Act} {o : Oper} {r : RO} {v : Value} (hr : resR P N o = some r) (ha : AR G N ts a) (hs : St P w0 G m w) (hd : dR ts m r = some v) :
    ∃ v',(execOp a.eval o).run P w = .ok (.value v') w ∧ VR G v v' := by
  unfold resR at hr
  split at hr
  · rename_i r' h
    simp at hr; subst hr
    exact resR1_snd h ha hs hd
  · exact resR2_snd hr ha hs hd
end
end Go.Proofs.YtccjlggpiliilaaGreatDoor.Ab

set_option linter.unusedVariables false
set_option linter.unusedSimpArgs false
namespace Go.Proofs.YtccjlggpiliilaaGreatDoor.Ab
open Go Go.RowKit
theorem setCells_spec (b : Nat) : ∀ (vs : List Value) (o : Nat) (w : World) (c : Array Value) (e : TypeId) (fz : Nat × Nat),w.heap[b]? = some (.cells c e fz) → o + vs.length ≤ c.size →
    (w.setCells b o vs).heap[b]? = some (.cells ⟨putAt c.toList o vs⟩ e fz) ∧ (∀ k,k ≠ b → (w.setCells b o vs).heap[k]? = w.heap[k]?) ∧ (w.setCells b o vs).heap.size = w.heap.size ∧
      (w.setCells b o vs).os = w.os ∧ (w.setCells b o vs).tape = w.tape ∧ (w.setCells b o vs).output = w.output
  | [],o,w,c,e,fz,h,hl => by
    have : putAt c.toList o [] = c.toList := by simp [putAt]
    rw [this]
    exact ⟨h,fun _ _ => rfl,rfl,rfl,rfl,rfl⟩
  | v :: r,o,w,c,e,fz,h,hl => by
    simp only [List.length_cons] at hl
    have h1 : (w.setCell ⟨b,o,none⟩ v).heap[b]? = some (.cells (c.setIfInBounds o v) e fz) := by
      simp [World.setCell,Array.getElem?_modify,h]
    obtain ⟨h2,h3,h4,h5,h6,h7⟩ := setCells_spec b r (o + 1) (w.setCell ⟨b,o,none⟩ v) _ e fz h1 (by simp; omega)
    simp only [World.setCells]
    refine ⟨?_,fun k hk => ?_,?_,h5,h6,h7⟩
    · rw [h2]
      have : putAt (c.setIfInBounds o v).toList (o + 1) r = putAt c.toList o (v :: r) := by
        rw [Array.toList_setIfInBounds]
        exact putAt_set c.toList o v r (by simpa using (by omega : o < c.size))
      rw [this]
    · rw [h3 k hk]
      exact Below.heap_setCell _ _ _ _ hk
    · rw [h4]; simp [World.setCell]
inductive EO where
  | al (zero : List Value) (e : TypeId)
  | bx (e : TypeId) (x : Operand)
  | bsl (e : TypeId) (sz len : Nat) (zero : List Value) (parts : List (Nat × Nat × Operand))
  | st (n : Nat) (p x : Operand)
  | app (e : TypeId) (sz bytes : Nat) (x y : Operand)
  | mks (e : TypeId) (bytes : Nat) (zero : Value) (n c : Operand)
  | s2b (e : TypeId) (x : Operand)
  | cpy (sz : Nat) (x y : Operand)
  | ust (e : TypeId) (p n : Operand)
  | mkm
  | mup (kk : Nat) (x k v : Operand)
  | rgm (x : Operand)
  | cvm (e : TypeId) (x : Operand)
def oneC : Value → Bool
  | .agg _ | .tuple _ => false
  | _ => true
def byteV (b : UInt8) : Value := .int .u8 b.toNat
def elemsV (m : Mem) (sz : Nat) : Value → Option (List Value)
  | .slice none _ _ => some []
  | .slice (some ⟨_,_,some _⟩) _ _ => some []
  | .slice (some ⟨i,o,none⟩) n _ => m.row i o (n * sz)
  | .string s => if sz = 1 then some (s.data.toList.map byteV) else none
  | _ => none
def lenV : Value → Nat
  | .slice _ n _ => n
  | .string s => s.size
  | _ => 0
def mapPut : List MapEntry → Nat → Value → Value → List MapEntry
  | [],_,_,_ => []
  | e :: es,0,k,v => ⟨k,v,e.born⟩ :: es
  | e :: es,i + 1,k,v => e :: mapPut es i k v
def dE (ts : Fr) (m : Mem) : EO → Option (Value × Mem)
  | .al zero e => some (.pointer (some ⟨m.next,0,none⟩),m.push (.own zero e))
  | .bx e x => some (.pointer (some ⟨m.next,0,none⟩),m.push (.own (cellsV (ev ts x)) e))
  | .bsl e sz len zero parts => match fiZ ts parts zero with
    | some cs => if cs.length = len * sz then some (.slice (some ⟨m.next,0,none⟩) len sz,m.push (.own cs e)) else none
    | none => none
  | .st n p x => match ev ts p with
    | .pointer (some ⟨i,o,none⟩) => match m.get i with
      | .own cs e => if o + n ≤ cs.length ∧ (cellsV (ev ts x)).length = n ∧ (cellsV (ev ts x)).all oneC = true then some (undef,m.set i (.own (putAt cs o (cellsV (ev ts x))) e)) else none
      | _ => none
    | _ => none
  | .app e sz bytes x y => match elemsV m sz (ev ts y) with
    | none => none
    | some ys => if lenV (ev ts y) = 0 then (match ev ts x with | .slice a n c => some (.slice a n c,m) | _ => none) else
      if ys.all oneC = true ∧ (lenV (ev ts x) + lenV (ev ts y)) * bytes ≤ 140737488355328 ∧ lenV (ev ts x) + lenV (ev ts y) ≤ maxLen then
        match ev ts x with
        | .slice none _ _ => some (.slice (some ⟨m.next,0,none⟩) (lenV (ev ts y)) sz,m.push (.own ys e))
        | .slice (some ⟨i,o,none⟩) n z => match m.get i with
          | .own cs e' => if o + n * sz ≤ cs.length ∧ z = sz ∧ e' = e ∧ o % sz = 0 then
              some (.slice (some ⟨m.next,0,none⟩) (n + lenV (ev ts y)) sz,(m.set i .dead).push (.own ((cs.drop o).take (n * sz) ++ ys) e))
            else none
          | _ => none
        | _ => none
      else none
  | .mks e bytes zero n c => match ev ts n,ev ts c with
    | .int .i64 a,.int .i64 b => if 0 ≤ a ∧ a ≤ b ∧ bytes * b ≤ 140737488355328 ∧ b ≤ (maxLen : Nat) then
        some (.slice (some ⟨m.next,0,none⟩) a.toNat 1,m.push (.own (List.replicate a.toNat zero) e))
      else none
    | _,_ => none
  | .s2b e x => match ev ts x with
    | .string s => if s.size ≤ 140737488355328 then some (.slice (some ⟨m.next,0,none⟩) s.size 1,m.push (.own (s.data.toList.map byteV) e)) else none
    | _ => none
  | .cpy sz x y => match elemsV m sz (ev ts y),ev ts x with
    | some ys,.slice (some ⟨i,o,none⟩) n _ => match m.get i with
      | .own cs e => if o + min (lenV (ev ts y)) n * sz ≤ cs.length ∧ ys.all oneC = true then
          some (.int .i64 (min (lenV (ev ts y)) n : Nat),m.set i (.own (putAt cs o (ys.take (min (lenV (ev ts y)) n * sz))) e)) else none
      | _ => none
    | some ys,.slice _ 0 _ => some (.int .i64 0,m)
    | _,_ => none
  | .ust e p n => match ev ts p,ev ts n with
    | .pointer none,.int .i64 k => if k = 0 then some (.string .empty,m) else none
    | .pointer (some ⟨i,o,none⟩),.int .i64 k => if k = 0 then some (.string .empty,m) else if 0 < k ∧ k ≤ 9223372036854775807 then match m.get i with
      | .own cs e' => if e' = e ∧ o + k.toNat ≤ cs.length then match bytesOf ((cs.drop o).take k.toNat) with
          | some bs => some (.string ⟨bs.toArray⟩,m.set i .dead)
          | none => none
        else none
      | _ => none else none
    | _,_ => none
  | .mkm => some (.map (some m.next),m.push (.map [] 0))
  | .mup kk x k v => match ev ts x with
    | .map (some r) => if decide (kk < 2) = true ∨ aggP (ev ts k) = true then match m.get r with
      | .map es clock => match mapFind kk (ev ts k) es 0 with
        | some (some (i,_)) => some (undef,m.set r (.map (mapPut es i (ev ts k) (ev ts v)) clock))
        | some none => some (undef,m.set r (.map (es ++ [⟨ev ts k,ev ts v,clock⟩]) (Nat.succ clock)))
        | none => none
      | _ => none else none
    | _ => none
  | .rgm x => match ev ts x with
    | .map none => some (.pointer (some ⟨m.next,0,none⟩),m.push (.miter none 0 [] 0))
    | .map (some r) => match m.get r with
      | .map es clock => some (.pointer (some ⟨m.next,0,none⟩),m.push (.miter (some r) clock [] clock))
      | _ => none
    | _ => none
  | .cvm e x => match ev ts x with
    | .slice (some ⟨i,o,none⟩) n z => match m.get i with
      | .own _ e' => if e' = e then some (.slice (some ⟨i,o,none⟩) n z,m) else none
      | _ => none
    | _ => none
theorem St.move {P : Program} {w0 w w' : World} {G : Loc} {m : Mem} (h : St P w0 G m w) {i B b b' S : Nat} {e : Ent} (hm : (m.get i).mine = true) (hg : G i = some (B,b,S))
    (ho : w'.os = w.os) (ht : w'.tape = w.tape) (hu : w'.output = w.output) (hs : w'.heap.size = w.heap.size) (hb : ∀ k,k ≠ B → w'.heap[k]? = w.heap[k]?)
    (hE : ER w0 w' (fun j => if j = m.next then some (B,b',S) else G j) B b' S e) (hal : ∀ cs e',e = .own cs e' → b' % P.cellsOf e' = 0) :
    Loc.le G (fun j => if j = m.next then some (B,b',S) else G j) ∧ St P w0 (fun j => if j = m.next then some (B,b',S) else G j) ((m.set i .dead).push e) w' := by
  have hle : Loc.le G (fun j => if j = m.next then some (B,b',S) else G j) := by
    intro j x hx
    have := h.dom j x hx
    show (if j = m.next then some (B,b',S) else G j) = some x
    rw [if_neg (by omega)]; exact hx
  refine ⟨hle,?_⟩
  have hB : w0.heap.size ≤ B := by
    obtain ⟨B2,b2,S2,g2,r⟩ := h.ent i (by intro e; rw [e] at hm; cases hm)
    rw [hg] at g2
    cases g2
    exact r.size hm
  have hBl := h.lim i B b S (Ent.live hm) hg
  refine ⟨⟨by rw [ho,h.below.os],by rw [ht,h.below.tape],by rw [hu,h.below.output],by rw [hs]; exact h.below.size,fun k hk => by rw [hb k (by omega)]; exact h.below.block k hk⟩,?_,?_,?_,?_,?_,?_⟩
  · intro j x hx
    by_cases hj : j = m.next
    · subst hj; simp
    · simp only [hj,if_false] at hx
      have := h.dom j x hx
      simp; omega
  · intro j B2 b2 S2 hd hx
    rw [hs]
    by_cases hj : j = m.next
    · subst hj
      simp at hx
      rw [← hx.1]; exact hBl
    · simp only [hj,if_false] at hx
      by_cases hji : j = i
      · subst hji; exact h.lim j B2 b2 S2 (Ent.live hm) hx
      · exact h.lim j B2 b2 S2 (by simpa only [Mem.push_get,Mem.set_next,hj,if_false,Mem.set_get,hji] using hd) hx
  · intro k hd
    by_cases hk : k = m.next
    · subst hk
      exact ⟨B,b',S,by simp,by simpa [Mem.push] using hE⟩
    · by_cases hki : k = i
      · subst hki
        simp [Mem.push_get,Mem.set_get,hk] at hd
      · simp only [Mem.push_get,Mem.set_next,hk,if_false,Mem.set_get,hki] at hd ⊢
        obtain ⟨B2,b2,S2,g2,r⟩ := h.ent k hd
        refine ⟨B2,b2,S2,g2,(r.keep fun hm' => hb _ fun e => ?_).mono hle⟩
        subst e
        exact hki (h.inj k i _ _ _ hm' hm g2 hg)
  · intro k j B2 b2 c hk hj gk gj
    by_cases h1 : k = m.next <;> by_cases h2 : j = m.next
    · rw [h1,h2]
    · exfalso
      by_cases hji : j = i
      · subst hji
        simp [Mem.push_get,Mem.set_get,h2,Ent.mine] at hj
      · simp only [Mem.push_get,Mem.set_next,h2,if_false,Mem.set_get,hji] at hj
        simp only [h1,if_true,h2,if_false,Option.some.injEq,Prod.mk.injEq] at gk gj
        rw [← gk.1] at gj
        exact hji (h.inj j i _ _ _ hj hm gj hg)
    · exfalso
      by_cases hki : k = i
      · subst hki
        simp [Mem.push_get,Mem.set_get,h1,Ent.mine] at hk
      · simp only [Mem.push_get,Mem.set_next,h1,if_false,Mem.set_get,hki] at hk
        simp only [h1,if_false,h2,if_true,Option.some.injEq,Prod.mk.injEq] at gk gj
        rw [← gj.1] at gk
        exact hki (h.inj k i _ _ _ hk hm gk hg)
    · have key : ∀ x,x ≠ m.next → (((m.set i .dead).push e).get x).mine = true → (m.get x).mine = true := by
        intro x hx hm'
        by_cases e' : x = i
        · subst e'; simp [Mem.push_get,Mem.set_get,hx,Ent.mine] at hm'
        · simpa only [Mem.push_get,Mem.set_next,hx,if_false,Mem.set_get,e'] using hm'
      simp only [h1,h2,if_false] at gk gj
      exact h.inj k j B2 b2 c (key k h1 hk) (key j h2 hj) gk gj
  · intro g hgl
    obtain ⟨S',hS'⟩ := h.glob g hgl
    exact ⟨S',hle _ _ hS'⟩
  · intro k cs e' B2 b2 S2 hk hx
    by_cases h1 : k = m.next
    · subst h1
      simp only [if_true,Option.some.injEq,Prod.mk.injEq] at hx
      have : ((m.set i .dead).push e).get m.next = e := by simp [Mem.push_get]
      rw [this] at hk
      rw [← hx.2.1]; exact hal cs e' hk
    · by_cases h2 : k = i
      · subst h2
        simp [Mem.push_get,Mem.set_get,h1] at hk
      · simp only [Mem.push_get,Mem.set_next,h1,if_false,Mem.set_get,h2] at hk hx
        exact h.ali k cs e' B2 b2 S2 hk hx
section
variable {P : Program} {w0 w : World} {G : Loc} {m : Mem}
def Leaves (P : Program) (w0 w : World) (G : Loc) (v : Value) (m' : Mem) (v' : Value) (w' : World) : Prop :=
  ∃ G',Loc.le G G' ∧ VR G' v v' ∧ St P w0 G' m' w'
theorem own_new (hs : St P w0 G m w) {cs cs' : List Value} {extra : List Value} {e : TypeId} (fz : Nat × Nat) (hfz : openRow (cs' ++ extra).length fz) (h : VRs G cs cs') :
    Loc.le G (fun i => if i = m.next then some (w.heap.size,0,(cs' ++ extra).length) else G i) ∧ St P w0 (fun i => if i = m.next then some (w.heap.size,0,(cs' ++ extra).length) else G i) (m.push (.own cs e)) (w.alloc (.cells ⟨cs' ++ extra⟩ e fz)) := by
  have hle : Loc.le G (fun i => if i = m.next then some (w.heap.size,0,(cs' ++ extra).length) else G i) := by
    intro i x hx
    have := hs.dom i x hx
    show (if i = m.next then some (w.heap.size,0,(cs' ++ extra).length) else G i) = some x
    rw [if_neg (by omega)]; exact hx
  refine hs.alloc _ _ _ ⟨hs.below.size,⟨cs' ++ extra⟩,fz,heap_alloc_new w _,by simp,hfz,fun j v hj => ?_⟩
  obtain ⟨v',h1,h2⟩ := h.get j v hj
  have hl : j < cs'.length := (List.getElem?_eq_some_iff.1 h1).1
  exact ⟨v',by simp [List.getElem?_append_left hl,h1],h2.mono hle⟩
theorem open00 (n : Nat) : openRow n (0,0) := ⟨fun o _ h => absurd h.2 (by simp),Nat.le_refl _⟩
theorem snd_new (hs : St P w0 G m w) {t : TypeId} {v v' : Value} (h : VR G v v') :
    ∃ w',(newVar t v').run P w = .ok ⟨w.heap.size,0,none⟩ w' ∧ Leaves P w0 w G (.pointer (some ⟨m.next,0,none⟩)) (m.push (.own (cellsV v) t)) (.pointer (some ⟨w.heap.size,0,none⟩)) w' := by
  have h0 := own_new hs (cs := cellsV v) (cs' := v'.cells.toList) (extra := []) (e := t) (0,0) (open00 _) h.cells
  refine ⟨w.alloc (.cells v'.cells t),by simp [newVar,newRow],_,h0.1,?_,by simpa using h0.2⟩
  exact VR.ptr m.next 0 w.heap.size 0 (v'.cells.toList ++ []).length (by simp)
theorem snd_al (hs : St P w0 G m w) {t : TypeId} {i : TypeInfo} {z : Value} (hi : P.info? t = some i) (hz : i.zero = some z) (hp : plainV 6 z = true) :
    ∃ v' w',(Instr.alloc t true (.tuple #[])).run P w = .ok v' w' ∧ Leaves P w0 w G (.pointer (some ⟨m.next,0,none⟩)) (m.push (.own (cellsV z) t)) v' w' := by
  obtain ⟨w',h1,h2⟩ := snd_new hs (t := t) (VR.plain (G := G) 6 z hp)
  exact ⟨_,w',by simp [Instr.alloc,zeroValue,typeInfo,hi,hz,h1],h2⟩
theorem snd_bx (hs : St P w0 G m w) {t : TypeId} {v v' : Value} (h : VR G v v') :
    ∃ u w',(Instr.box t v').run P w = .ok u w' ∧ Leaves P w0 w G (.pointer (some ⟨m.next,0,none⟩)) (m.push (.own (cellsV v) t)) u w' := by
  obtain ⟨w',h1,h2⟩ := snd_new hs (t := t) h
  exact ⟨_,w',by simp [Instr.box,h1],h2⟩
theorem own_get (hs : St P w0 G m w) {i B b S : Nat} {cs : List Value} {e : TypeId} (hg : G i = some (B,b,S)) (h : m.get i = .own cs e) :
    w0.heap.size ≤ B ∧ ∃ c fz,w.heap[B]? = some (.cells c e fz) ∧ c.size = S ∧ openRow c.size fz ∧ (∀ (j : Nat) (v : Value),cs[j]? = some v → ∃ v',c[b + j]? = some v' ∧ VR G v v') ∧ (0 < cs.length → b + cs.length ≤ c.size) := by
  obtain ⟨B',b',S',g',r⟩ := hs.ent i (by rw [h]; simp)
  rw [hg] at g'
  cases g'
  rw [h] at r
  obtain ⟨h0,c,fz,h1,hS,h2,h3⟩ := r
  refine ⟨h0,c,fz,h1,hS,h2,h3,fun hpos => ?_⟩
  obtain ⟨v',hv,_⟩ := h3 (cs.length - 1) (cs[cs.length - 1]'(by omega)) (by simp)
  have := (Array.getElem?_eq_some_iff.1 hv).1
  omega
theorem putAt_get (cs : List Value) (o : Nat) (vs : List Value) (h : o + vs.length ≤ cs.length) (j : Nat) : (putAt cs o vs)[j]? = if o ≤ j ∧ j < o + vs.length then vs[j - o]? else cs[j]? := by
  unfold putAt
  rw [List.append_assoc,List.getElem?_append]
  have hl : (cs.take o).length = o := by simp; omega
  rw [hl]
  by_cases h1 : j < o
  · rw [if_pos h1,if_neg (by omega),List.getElem?_take,if_pos h1]
  · rw [if_neg h1,List.getElem?_append]
    by_cases h2 : j - o < vs.length
    · rw [if_pos h2,if_pos (by omega)]
    · rw [if_neg h2,if_neg (by omega),List.getElem?_drop]
      congr 1; omega
theorem putAt_length (cs : List Value) (o : Nat) (vs : List Value) (h : o + vs.length ≤ cs.length) : (putAt cs o vs).length = cs.length := by
  unfold putAt; simp; omega
theorem cells_frozen {w : World} {B : Nat} {c : Array Value} {e : TypeId} {fz : Nat × Nat} (h : w.heap[B]? = some (.cells c e fz)) (ho : openRow c.size fz) (j : Nat) (hj : j < c.size) : w.frozen? ⟨B,j,none⟩ = false := by
  have := ho.1 j hj
  simp only [World.frozen?,h]
  simpa using this
theorem cells_some {w : World} {B : Nat} {c : Array Value} {e : TypeId} {fz : Nat × Nat} (h : w.heap[B]? = some (.cells c e fz)) (j : Nat) (hj : j < c.size) : (w.cell? ⟨B,j,none⟩).isSome = true := by
  simp [World.cell?,h,hj]
theorem snd_put (hs : St P w0 G m w) {i o B b S : Nat} {cs vs vs' : List Value} {e : TypeId} (hg : G i = some (B,b,S)) (h : m.get i = .own cs e) (hl : o + vs.length ≤ cs.length) (hv : VRs G vs vs') (h1 : vs.all oneC = true) :
    ∃ w',(storeCells ⟨B,b + o,none⟩ vs').run P w = .ok () w' ∧ St P w0 G (m.set i (.own (putAt cs o vs) e)) w' := by
  obtain ⟨h0,c,fz,hw,hS,hfz,hc,hsz⟩ := own_get hs hg h
  by_cases hpos : vs = []
  · subst hpos
    cases hv
    refine ⟨w,rfl,?_⟩
    have : putAt cs o [] = cs := by simp [putAt]
    rw [this]
    exact hs.write (by rw [h]; rfl) hg rfl rfl rfl rfl (fun _ _ => rfl) ⟨h0,c,fz,hw,hS,hfz,hc⟩ fun _ _ hE => by cases hE; exact ⟨_,h⟩
  · have hlen : 0 < vs.length := List.length_pos_iff.2 hpos
    have hsz := hsz (by omega)
    have h1' : ∀ v ∈ vs',v.oneCell' = true := by
      have key : ∀ (l l' : List Value),VRs G l l' → l.all oneC = true → ∀ v ∈ l',v.oneCell' = true := by
        intro l
        induction l with
        | nil => intro l' hl' _ v hv; cases hl'; cases hv
        | cons x l ih =>
          intro l' hl' ha v hv
          cases hl' with
          | cons _ x' _ l'' hx hxs =>
            simp only [List.all_cons,Bool.and_eq_true] at ha
            rcases List.mem_cons.1 hv with rfl | hv
            · cases hx <;> first | rfl | (simp [oneC] at ha)
            · exact ih l'' hxs ha.2 v hv
      exact key vs vs' hv h1
    have hvl := hv.length
    have hrun := run_storeCells_cells (P := P) B (b + o) vs' 0 w (fun j hj => by rw [Nat.add_zero]; exact cells_some hw _ (by omega)) (fun j hj => by rw [Nat.add_zero]; exact cells_frozen hw hfz _ (by omega)) h1'
    obtain ⟨s1,s2,s3,s4,s5,s6⟩ := setCells_spec B vs' (b + o) w c e fz hw (by omega)
    have hsame : (⟨putAt c.toList (b + o) vs'⟩ : Array Value).size = c.size := by
      have := putAt_length c.toList (b + o) vs' (by simpa using (by omega : b + o + vs'.length ≤ c.size))
      simpa using this
    refine ⟨_,hrun,hs.write (by rw [h]; rfl) hg s4 s5 s6 s3 s2 ⟨h0,_,fz,s1,by rw [hsame]; exact hS,?_,fun j v hj => ?_⟩ fun _ _ hE => by cases hE; exact ⟨_,h⟩⟩
    · rw [hsame]; exact hfz
    · rw [putAt_get cs o vs hl] at hj
      have hq : ((⟨putAt c.toList (b + o) vs'⟩ : Array Value))[b + j]? = if b + o ≤ b + j ∧ b + j < b + o + vs'.length then vs'[b + j - (b + o)]? else c[b + j]? := by
        have := putAt_get c.toList (b + o) vs' (by simpa using (by omega : b + o + vs'.length ≤ c.size)) (b + j)
        simpa using this
      rw [hq]
      split at hj
      · rename_i hc1
        rw [if_pos (by omega),show b + j - (b + o) = j - o from by omega]
        exact hv.get _ _ hj
      · rename_i hc1
        rw [if_neg (by omega)]
        exact hc j v hj
theorem snd_st (hs : St P w0 G m w) {t : TypeId} {ti : TypeInfo} {n : Nat} (hi : P.info? t = some ti) (hn : ti.size = n) {i o : Nat} {cs : List Value} {e : TypeId} {x x' p : Value} (hp : VR G (.pointer (some ⟨i,o,none⟩)) p) (hx : VR G x x')
    (h : m.get i = .own cs e) (hl : o + n ≤ cs.length) (hc : (cellsV x).length = n) (h1 : (cellsV x).all oneC = true) :
    ∃ w',(Instr.storeAt t p x').run P w = .ok () w' ∧ St P w0 G (m.set i (.own (putAt cs o (cellsV x)) e)) w' := by
  cases hp with
  | ptr _ _ B b S hg =>
    have hxc := hx.cells
    obtain ⟨w',hr,hst⟩ := snd_put (o := o) hs hg h (by omega) hxc h1
    refine ⟨w',?_,hst⟩
    have : x'.cells.size = ti.size := by
      have := hxc.length
      rw [hc] at this
      rw [hn]; simpa using this
    simp [Instr.storeAt,Instr.sureAddr,storeVar,run_sizeOf hi,this,hr]
theorem byteV_oneC (l : List UInt8) : (l.map byteV).all oneC = true := by
  rw [List.all_eq_true]
  intro v hv
  obtain ⟨b,_,rfl⟩ := List.mem_map.1 hv
  rfl
theorem byteV_flat {G : Loc} (l : List UInt8) : VRs G (l.map byteV) (l.map byteV) := VRs.refl_of _ fun v hv => by
  obtain ⟨b,_,rfl⟩ := List.mem_map.1 hv
  exact .int _ _
theorem snd_elems (hs : St P w0 G m w) {sz : Nat} {x x' : Value} {ys : List Value} (hx : VR G x x') (h : elemsV m sz x = some ys) :
    ∃ ys' : List Value,(∀ w',w'.heap = w.heap → (Builtin.firstCells sz (lenV x) x').run P w' = .ok ys'.toArray w') ∧ VRs G ys ys' ∧ (∀ w',(Builtin.lenOf x').run P w' = .ok (lenV x) w') ∧ ys.length = lenV x * sz := by
  unfold elemsV at h
  split at h
  · simp at h; subst h
    cases hx
    exact ⟨[],fun w' _ => by simp [Builtin.firstCells,lenV],.nil,fun w' => by simp [Builtin.lenOf,lenV],by simp [lenV]⟩
  · simp at h; subst h
    cases hx
    exact ⟨[],fun w' _ => by simp [Builtin.firstCells,lenV,loadCells,loadCellsFrom],.nil,fun w' => by simp [Builtin.lenOf,lenV],by simp [lenV]⟩
  · rename_i i o n c
    cases hx with
    | sl _ _ B b S _ cp z hg hn hc hS =>
      obtain ⟨cs',h1,h2,h3⟩ := hs.row hg h
      refine ⟨cs',fun w' hw => ?_,h2,fun w' => by simp [Builtin.lenOf,lenV],by rw [← h2.length,h1]; simp [lenV]⟩
      have hl := run_loadCells_list (P := P) (w := w') ⟨B,b + o,none⟩ cs' (fun j v hj => by
        have := h3 j v hj
        simp only [World.cell?,hw] at this ⊢
        exact this)
      rw [h1] at hl
      simp [Builtin.firstCells,lenV,hl]
  · rename_i s
    split at h
    · rename_i hsz
      subst hsz
      simp at h; subst h
      cases hx
      refine ⟨s.data.toList.map byteV,fun w' _ => ?_,byteV_flat _,fun w' => by simp [Builtin.lenOf,lenV],by simp [lenV,ByteArray.toList_eq]⟩
      simp only [Builtin.firstCells,lenV,Sem.run_pure,ByteArray.toList_eq]
      congr 1
      apply Array.ext'
      have : s.extract 0 s.size = s := by simp
      rw [this]
      simp [byteV]
    · cases h
  · cases h
theorem VRs.oneC : ∀ {l l' : List Value},VRs G l l' → l.all Ab.oneC = true → ∀ v ∈ l',v.oneCell' = true
  | _,_,.nil,_,v,hv => by cases hv
  | _,_,.cons x x' l l' hx hxs,ha,v,hv => by
    simp only [List.all_cons,Bool.and_eq_true] at ha
    rcases List.mem_cons.1 hv with rfl | hv
    · cases hx <;> first | rfl | (simp [Ab.oneC] at ha)
    · exact VRs.oneC hxs ha.2 v hv
def noInt (P : Program) (t : TypeId) : Bool := match P.underlying t with
  | some (.int _) | none => false
  | _ => true
theorem noInt_run {t : TypeId} (h : noInt P t = true) : ∃ d,P.underlying t = some d ∧ ∀ k,d ≠ .int k := by
  unfold noInt at h
  split at h
  · cases h
  · cases h
  · rename_i h1 h2
    cases hd : P.underlying t with
    | none => exact (h2 hd).elim
    | some d => exact ⟨d,rfl,fun k e => h1 k (by rw [hd,e])⟩
def appTail (P : Program) (elem : TypeId) (size : Nat) (base : Option Addr) (sLen sCap : Nat) (s x : Value) : Sem Value := do
  let n ← Builtin.lenOf x
  let need := sLen + n
  if need ≤ sCap then
    let new ← Builtin.firstCells size n x
    if let some a := base then storeCells (a.add (sLen * size)) new.toList
    pure (.slice base need sCap)
  else
    if (need : Int) > IntKind.i64.max ∧ (False ∨ (← typeInfo elem).bytes = 0) then runtimePanic (.error "growslice: len out of range")
    if Builtin.nextslicecap need sCap * (← typeInfo elem).bytes > 2 ^ 48 then (do
      if !(← Builtin.mayShare size sLen n base x) then mark .noRoom
      unsupported (.resourceLimit "append: a slice or a string whose bytes no memory bears"))
    let newCap ← choose (.appendCap need sCap elem)
    askRoom (newCap * (← typeInfo elem).bytes)
    let old ← Builtin.firstCells size sLen s
    let new ← Builtin.firstCells size n x
    let rest := Builtin.zeroCells (← zeroValue elem).cells (newCap - need)
    pure (.slice (some (← newRow elem (old ++ new ++ rest))) need newCap)
theorem app_tail {t t2 ty e : TypeId} {i : TypeInfo} (ht : P.underlying t = some (.slice e)) (h2 : noInt P t2 = true) (hi : P.info? e = some i) (base : Option Addr) (n c : Nat) (y : Value) :
    (Builtin.append_ #[t,t2] ty #[.slice base n c,y]).run P w = (appTail P e i.size base n c (.slice base n c) y).run P w := by
  obtain ⟨d,hd,hdi⟩ := noInt_run h2
  have hm : ∀ (x y : Bool),(match d with | .int _ => x | _ => y) = y := by intro x y; cases d <;> first | rfl | exact (hdi _ rfl).elim
  unfold Builtin.append_ appTail
  cases d <;> first
    | exact (hdi _ rfl).elim
    | (simp only [Sem.run_bind,run_underlying ht,run_underlying hd,run_sizeOf hi,Result.andThen_ok,Sem.run_pure,List.getElem?_toArray,gZ0,gZ1,Bool.false_eq_true,↓reduceIte,Bool.not_false,false_or]; done)
    | (simp only [Sem.run_bind,run_underlying ht,run_underlying hd,run_sizeOf hi,Result.andThen_ok,Sem.run_pure,List.getElem?_toArray,gZ0,gZ1,Bool.false_eq_true,↓reduceIte,Bool.not_false,false_or]; rfl)
theorem run_app_grow' {t t2 ty e : TypeId} {i : TypeInfo} {z : Value} (ht : P.underlying t = some (.slice e)) (h2 : noInt P t2 = true) (hi : P.info? e = some i) (hz : i.zero = some z) {base : Option Addr} {n c k : Nat} {olds news : List Value} {y' : Value}
    (hfo : (Builtin.firstCells i.size n (.slice base n c)).run P w.drew = .ok olds.toArray w.drew) (hy : (Builtin.lenOf y').run P w = .ok k w) (hfy : (Builtin.firstCells i.size k y').run P w.drew = .ok news.toArray w.drew)
    (hg : c < n + k) (hm : n + k ≤ maxLen) (hb : (n + k) * i.bytes ≤ 140737488355328) :
    (Builtin.append_ #[t,t2] ty #[.slice base n c,y']).run P w =
      .ok (.slice (some ⟨w.heap.size,0,none⟩) (n + k) (grownCap w (n + k) c e)) (w.drew.alloc (.cells (olds.toArray ++ news.toArray ++ Builtin.zeroCells z.cells (grownCap w (n + k) c e - (n + k))) e)) := by
  unfold maxLen at hm
  have hn : ¬ (n + k ≤ c) := by omega
  have h63' : ¬ (9223372036854775807 < ((n : Int) + (k : Int))) := by omega
  have h48' : ¬ (281474976710656 < Builtin.nextslicecap (n + k) c * i.bytes) := by have := growslice_fits hg hb; omega
  have hfo' : (Builtin.firstCells i.size n (.slice base n c)).run P { w with drawn := w.drawn + 1 } = .ok olds.toArray { w with drawn := w.drawn + 1 } := hfo
  have hfy' : (Builtin.firstCells i.size k y').run P { w with drawn := w.drawn + 1 } = .ok news.toArray { w with drawn := w.drawn + 1 } := hfy
  rw [app_tail ht h2 hi]
  simp [appTail,typeInfo,zeroValue,hi,hz,hy,hn,h63',h48',Question.forced,hfo,hfy,newRow,grownCap]
  rw [← Array.append_assoc]
  simp
theorem run_app_fit' {t t2 ty e : TypeId} {i : TypeInfo} (ht : P.underlying t = some (.slice e)) (h2 : noInt P t2 = true) (hi : P.info? e = some i) {a : Addr} {n c k : Nat} {news : List Value} {y' : Value} {w' : World}
    (hy : (Builtin.lenOf y').run P w = .ok k w) (hfy : (Builtin.firstCells i.size k y').run P w = .ok news.toArray w) (hg : n + k ≤ c) (hst : (storeCells (a.add (n * i.size)) news).run P w = .ok () w') :
    (Builtin.append_ #[t,t2] ty #[.slice (some a) n c,y']).run P w = .ok (.slice (some a) (n + k) c) w' := by
  rw [app_tail ht h2 hi]
  simp [appTail,hy,hg,hfy,hst]
theorem run_app_none' {t t2 ty e : TypeId} {i : TypeInfo} (ht : P.underlying t = some (.slice e)) (h2 : noInt P t2 = true) (hi : P.info? e = some i) {y' : Value} {news : List Value}
    (hy : (Builtin.lenOf y').run P w = .ok 0 w) (hfy : (Builtin.firstCells i.size 0 y').run P w = .ok news.toArray w) :
    (Builtin.append_ #[t,t2] ty #[.slice none 0 0,y']).run P w = .ok (.slice none 0 0) w := by
  rw [app_tail ht h2 hi]
  simp [appTail,hy,hfy]
theorem row_of_own {i o n : Nat} {cs : List Value} {e : TypeId} (h : m.get i = .own cs e) (hl : o + n ≤ cs.length) : m.row i o n = some ((cs.drop o).take n) := by
  simp [Mem.row,h,Ent.cells?,hl]
theorem zeroCells_size (z : Array Value) (n : Nat) : (Builtin.zeroCells z n).size = n * z.size := by simp [Builtin.zeroCells]
set_option maxHeartbeats 1000000 in
theorem snd_app {N : Nat} {ts : Fr} {a : Act} (ha : AR G N ts a) (hs : St P w0 G m w) {t t2 ty e : TypeId} {i : TypeInfo} {z : Value} (ht : P.underlying t = some (.slice e)) (h2 : noInt P t2 = true) (hi : P.info? e = some i) (hz : i.zero = some z) (hzs : z.cells.size = i.size)
    {x y : Operand} (hx : okX P N x = true) (hy : okX P N y = true) {v : Value} {m' : Mem} (h : dE ts m (.app e i.size i.bytes x y) = some (v,m')) :
    ∃ v' w',(Builtin.append_ #[t,t2] ty #[a.eval x,a.eval y]).run P w = .ok v' w' ∧ Leaves P w0 w G v m' v' w' := by
  have vx := ev_VR ha hs x hx
  have vy := ev_VR ha hs y hy
  simp only [dE] at h
  split at h
  · cases h
  rename_i ys hys
  obtain ⟨ys',hfc,hyr,hlo,hyl⟩ := snd_elems hs vy hys
  generalize a.eval x = X at *
  generalize a.eval y = Y at *
  generalize hk : lenV (ev ts y) = k at *
  split at h
  · rename_i hk0
    subst hk0
    split at h
    · rename_i q n c hx'
      rw [hx'] at vx
      simp at h
      obtain ⟨rfl,rfl⟩ := h
      obtain rfl : ys = [] := by simpa using hyl
      cases hyr
      cases vx with
      | nils => exact ⟨_,w,run_app_none' ht h2 hi (hlo w) (hfc w rfl),G,Loc.le_refl G,.nils,hs⟩
      | sl i' o B b S _ cp _ hg hn hc hS =>
        exact ⟨_,w,run_app_fit' ht h2 hi (hlo w) (hfc w rfl) (by omega) (by rfl),G,Loc.le_refl G,.sl _ _ _ _ _ _ _ _ hg hn hc hS,hs⟩
      | empty ad cp hcp =>
        exact ⟨_,w,run_app_fit' ht h2 hi (hlo w) (hfc w rfl) (by omega) (by rfl),G,Loc.le_refl G,.empty _ _ hcp,hs⟩
    · cases h
  · rename_i hk0
    split at h
    case isFalse => cases h
    rename_i hcond
    obtain ⟨h1c,hb,hm⟩ := hcond
    have grow : ∀ (base : Option Addr) (n c : Nat) (olds olds' : List Value) (m1 : Mem),lenV (ev ts x) = n → St P w0 G m1 w → m1.next = m.next → VRs G olds olds' → (Builtin.firstCells i.size n (.slice base n c)).run P w.drew = .ok olds'.toArray w.drew → olds.length = n * i.size →
        c < n + k → ∃ v' w',(Builtin.append_ #[t,t2] ty #[.slice base n c,Y]).run P w = .ok v' w' ∧ Leaves P w0 w G (.slice (some ⟨m.next,0,none⟩) (n + k) i.size) (m1.push (.own (olds ++ ys) e)) v' w' := by
      intro base n c olds olds' m1 hxn hs1 hnx hor hfo hol hg
      rw [hxn] at hb hm
      have hr := run_app_grow' (ty := ty) ht h2 hi hz hfo (hlo w) (hfc w.drew rfl) hg hm hb
      refine ⟨_,_,hr,?_⟩
      have hs2 : St P w0 G m1 w.drew := hs1.same rfl rfl rfl rfl
      have hn := own_new hs2 (e := e) (cs' := olds' ++ ys') (extra := (Builtin.zeroCells z.cells (grownCap w (n + k) c e - (n + k))).toList) (0,0) (open00 _) (hor.append hyr)
      refine ⟨_,hn.1,?_,?_⟩
      · have hcap := grownCap_ge w (n + k) c e
        have hcm := grownCap_le_maxLen w (n + k) c e hm
        refine .sl _ _ _ _ ((olds' ++ ys' ++ (Builtin.zeroCells z.cells (grownCap w (n + k) c e - (n + k))).toList).length) _ _ _ (by simp [hnx]) hcap hcm ?_
        have e1 : olds'.length = n * i.size := by rw [hor.length,hol]
        have e2 : ys'.length = k * i.size := by rw [hyr.length,hyl]
        have e3 : (Builtin.zeroCells z.cells (grownCap w (n + k) c e - (n + k))).size = (grownCap w (n + k) c e - (n + k)) * i.size := by rw [zeroCells_size,hzs]
        simp only [List.length_append,Array.length_toList,e1,e2,e3,← Nat.add_mul]
        rw [show n + k + (grownCap w (n + k) c e - (n + k)) = grownCap w (n + k) c e from by omega]
        omega
      · have e0 : (⟨olds' ++ ys' ++ (Builtin.zeroCells z.cells (grownCap w (n + k) c e - (n + k))).toList⟩ : Array Value) = olds'.toArray ++ ys'.toArray ++ Builtin.zeroCells z.cells (grownCap w (n + k) c e - (n + k)) := by
          apply Array.ext'
          simp
        have h3 := hn.2
        rw [e0] at h3
        exact h3
    split at h
    · rename_i n c hx'
      rw [hx'] at vx
      simp at h
      obtain ⟨rfl,rfl⟩ := h
      cases vx
      obtain ⟨v',w',h3,h4⟩ := grow none 0 0 [] [] m (by rw [hx']; rfl) hs rfl .nil (by simp [Builtin.firstCells]) (by simp) (by omega)
      refine ⟨v',w',h3,?_⟩
      simpa using h4
    · rename_i j o n zz hx'
      rw [hx'] at vx
      split at h
      case h_2 => cases h
      rename_i cs e' hown
      split at h
      case isFalse => cases h
      rename_i hcond2
      obtain ⟨hle,hzz,he',hom⟩ := hcond2
      subst hzz he'
      simp at h
      obtain ⟨rfl,rfl⟩ := h
      cases vx with
      | sl _ _ B b S _ cp _ hg hn hc hS =>
        have hmine : (m.get j).mine = true := by rw [hown]; rfl
        by_cases hfit : n + k ≤ cp
        · obtain ⟨h0,c,fz,hw,hcS,hfz,hcc,hsz⟩ := own_get hs hg hown
          have hyl' : ys'.length = k * i.size := by rw [hyr.length,hyl]
          have hroom : n * i.size + k * i.size ≤ cp * i.size := by rw [← Nat.add_mul]; exact Nat.mul_le_mul_right _ hfit
          have h1' := hyr.oneC h1c
          have hrun := run_storeCells_cells (P := P) B (b + o + n * i.size) ys' 0 w (fun q hq => by rw [Nat.add_zero]; exact cells_some hw _ (by omega)) (fun q hq => by rw [Nat.add_zero]; exact cells_frozen hw hfz _ (by omega)) h1'
          obtain ⟨s1,s2,s3,s4,s5,s6⟩ := setCells_spec B ys' (b + o + n * i.size) w c _ fz hw (by omega)
          have hsame : (⟨putAt c.toList (b + o + n * i.size) ys'⟩ : Array Value).size = c.size := by
            have := putAt_length c.toList (b + o + n * i.size) ys' (by simpa using (by omega : b + o + n * i.size + ys'.length ≤ c.size))
            simpa using this
          have hE : ER w0 (w.setCells B (b + o + n * i.size) ys') (fun q => if q = m.next then some (B,b + o,S) else G q) B (b + o) S (.own ((cs.drop o).take (n * i.size) ++ ys) e') := by
            refine ⟨h0,_,fz,s1,by rw [hsame]; exact hcS,by rw [hsame]; exact hfz,fun q v hq => ?_⟩
            have hleG : Loc.le G (fun q => if q = m.next then some (B,b + o,S) else G q) := by
              intro q x hx
              have := hs.dom q x hx
              show (if q = m.next then some (B,b + o,S) else G q) = some x
              rw [if_neg (by omega)]; exact hx
            have hq2 : ((⟨putAt c.toList (b + o + n * i.size) ys'⟩ : Array Value))[b + o + q]? = if b + o + n * i.size ≤ b + o + q ∧ b + o + q < b + o + n * i.size + ys'.length then ys'[b + o + q - (b + o + n * i.size)]? else c[b + o + q]? := by
              have := putAt_get c.toList (b + o + n * i.size) ys' (by simpa using (by omega : b + o + n * i.size + ys'.length ≤ c.size)) (b + o + q)
              simpa using this
            rw [hq2]
            have htl : ((cs.drop o).take (n * i.size)).length = n * i.size := by simp; omega
            rw [List.getElem?_append,htl] at hq
            by_cases hlt : q < n * i.size
            · rw [if_pos hlt,List.getElem?_take,if_pos hlt,List.getElem?_drop] at hq
              rw [if_neg (by omega)]
              obtain ⟨v',a1,a2⟩ := hcc _ _ hq
              exact ⟨v',by rw [← a1]; congr 1; omega,a2.mono hleG⟩
            · rw [if_neg hlt] at hq
              have hql : q - n * i.size < ys.length := (List.getElem?_eq_some_iff.1 hq).1
              rw [if_pos (by omega),show b + o + q - (b + o + n * i.size) = q - n * i.size from by omega]
              obtain ⟨v',a1,a2⟩ := hyr.get _ _ hq
              exact ⟨v',a1,a2.mono hleG⟩
          obtain ⟨g1,g2⟩ := hs.move hmine hg s4 s5 s6 s3 s2 hE fun cs1 e1 he1 => by
            cases he1
            have h1 := hs.ali _ _ _ _ _ _ hown hg
            have h2 : P.cellsOf e' = i.size := by simp [Program.cellsOf,hi]
            rw [h2] at h1 ⊢
            rw [Nat.add_mod,h1,hom]; simp
          refine ⟨_,_,run_app_fit' ht h2 hi (hlo w) (hfc w rfl) hfit (by rw [Addr.add_lit]; exact hrun),_,g1,?_,g2⟩
          exact VR.sl m.next 0 B (b + o) S (n + k) cp i.size (by simp) hfit hc (by simpa using hS)
        · have hrow := row_of_own (n := n * i.size) hown hle
          obtain ⟨cs',r1,r2,r3⟩ := hs.row hg hrow
          have hl := run_loadCells_list (P := P) (w := w.drew) ⟨B,b + o,none⟩ cs' (fun q v hq => by have := r3 q v hq; simpa using this)
          rw [r1] at hl
          exact grow (some ⟨B,b + o,none⟩) n cp _ cs' (m.set j .dead) (by rw [hx']; rfl) (hs.kill j) rfl r2 (by simp [Builtin.firstCells,hl]) (by simp; omega) (by omega)
    · cases h
end
end Go.Proofs.YtccjlggpiliilaaGreatDoor.Ab

set_option linter.unusedVariables false
set_option linter.unusedSimpArgs false
namespace Go.Proofs.YtccjlggpiliilaaGreatDoor.Ab
open Go Go.RowKit
section
variable {P : Program} {w0 w : World} {G : Loc} {m : Mem}
theorem made_one (z : Value) (n : Nat) (hz : z.cells = #[z]) : (madeCells z.cells n).toList = List.replicate n z := by
  rw [hz]
  unfold madeCells
  apply List.ext_getElem?
  intro j
  simp only [Array.toList_map,Array.toList_range,List.getElem?_map,List.getElem?_range,List.getElem?_replicate]
  by_cases hj : j < n
  · simp [hj,List.getElem?_range,Nat.mod_one]
  · simp [hj,List.getElem?_range]
theorem snd_mks (hs : St P w0 G m w) {N : Nat} {ts : Fr} {a : Act} (ha : AR G N ts a) {t e : TypeId} {i : TypeInfo} {z : Value} (ht : P.underlying t = some (.slice e)) (hi : P.info? e = some i) (hz : i.zero = some z) (hsz : i.size = 1) (hzc : z.cells = #[z]) (hp : plainV 6 z = true)
    {x y : Operand} (hx : okX P N x = true) (hy : okX P N y = true) {v : Value} {m' : Mem} (h : dE ts m (.mks e i.bytes z x y) = some (v,m')) :
    ∃ v' w',(Instr.makeSlice t (a.eval x) (a.eval y)).run P w = .ok v' w' ∧ Leaves P w0 w G v m' v' w' := by
  have vx := ev_VR ha hs x hx
  have vy := ev_VR ha hs y hy
  simp only [dE] at h
  split at h
  · rename_i p q hp1 hq
    rw [hp1] at vx; rw [hq] at vy
    split at h
    case isFalse => cases h
    rename_i hc
    obtain ⟨h0,h1,h2,h3⟩ := hc
    simp at h
    obtain ⟨rfl,rfl⟩ := h
    generalize a.eval x = X at *
    generalize a.eval y = Y at *
    cases vx; cases vy
    have hr := run_make (P := P) w t e i z ht hi hz .i64 .i64 p q h0 h1 (by omega) (by unfold maxLen at h3; omega)
    refine ⟨_,_,hr,?_⟩
    have hm := made_one z (q.toNat * i.size) hzc
    have e1 : madeCells z.cells (q.toNat * i.size) = ⟨List.replicate p.toNat z ++ List.replicate (q.toNat - p.toNat) z⟩ := by
      apply Array.ext'
      rw [hm,hsz,Nat.mul_one,List.replicate_append_replicate]
      congr 1; omega
    rw [e1]
    have hn := own_new hs (e := e) (cs := List.replicate p.toNat z) (cs' := List.replicate p.toNat z) (extra := List.replicate (q.toNat - p.toNat) z) (0,0) (open00 _) (VRs.refl_of _ fun u hu => by rw [(List.mem_replicate.1 hu).2]; exact VR.plain 6 z hp)
    refine ⟨_,hn.1,?_,hn.2⟩
    refine .sl _ _ _ _ ((List.replicate p.toNat z ++ List.replicate (q.toNat - p.toNat) z).length) _ _ _ (by simp) (by omega) (by omega) (by simp; omega)
  · cases h
theorem snd_s2b (hs : St P w0 G m w) {N : Nat} {ts : Fr} {a : Act} (ha : AR G N ts a) {s t e : TypeId} (hsrc : P.underlying s = some .string) (hdst : P.underlying t = some (.slice e)) (he : P.underlying e = some (.int .u8)) {x : Operand} (hx : okX P N x = true) {v : Value} {m' : Mem}
    (h : dE ts m (.s2b e x) = some (v,m')) : ∃ v' w',(convert s t (a.eval x)).run P w = .ok v' w' ∧ Leaves P w0 w G v m' v' w' := by
  have vx := ev_VR ha hs x hx
  simp only [dE] at h
  split at h
  · rename_i q hq
    rw [hq] at vx
    split at h
    case isFalse => cases h
    rename_i hsz
    simp at h
    obtain ⟨rfl,rfl⟩ := h
    generalize a.eval x = X at *
    cases vx
    have hs2 : St P w0 G m w.drew := hs.same rfl rfl rfl rfl
    have hcap := grownCap_ge w q.size 0 e
    have hcm := grownCap_le_maxLen w q.size 0 e (by unfold maxLen; omega)
    have hn := own_new hs2 (e := e) (cs := q.data.toList.map byteV) (cs' := q.data.toList.map byteV) (extra := List.replicate (grownCap w q.size 0 e - q.size) (.int .u8 0)) (q.size + (grownCap w q.size 0 e - q.size),q.size + (grownCap w q.size 0 e - q.size) + 1)
      ⟨by intro o ho hf; simp [ByteArray.toList_eq] at ho; omega,by simp⟩ (byteV_flat _)
    have ec : (⟨q.data.toList.map byteV ++ List.replicate (grownCap w q.size 0 e - q.size) (.int .u8 0)⟩ : Array Value) = bytesRow q (grownCap w q.size 0 e) := by
      apply Array.ext'
      simp [byteV,ByteArray.toList_eq,bytesRow]
    have hsize : (bytesRow q (grownCap w q.size 0 e)).size = q.size + (grownCap w q.size 0 e - q.size) := by
      rw [← ec]; simp [ByteArray.toList_eq]
    have hr := run_bytes_of_string (P := P) w s t e q hsrc hdst he
    rw [hsize,← ec] at hr
    rw [hr]
    refine ⟨_,_,rfl,_,hn.1,?_,hn.2⟩
    refine .sl _ _ _ _ ((q.data.toList.map byteV ++ List.replicate (grownCap w q.size 0 e - q.size) (Value.int .u8 0)).length) _ _ _ (by simp) hcap hcm (by simp [ByteArray.toList_eq]; omega)
  · cases h
theorem snd_first (hs : St P w0 G m w) {sz k : Nat} {x x' : Value} {ys : List Value} (hx : VR G x x') (h : elemsV m sz x = some ys) (hk : k ≤ lenV x) :
    ∃ ys' : List Value,(Builtin.firstCells sz k x').run P w = .ok ys'.toArray w ∧ VRs G (ys.take (k * sz)) ys' ∧ (Builtin.lenOf x').run P w = .ok (lenV x) w ∧ ys.length = lenV x * sz := by
  unfold elemsV at h
  split at h
  · simp at h; subst h
    cases hx
    simp [lenV] at hk
    subst hk
    exact ⟨[],by simp [Builtin.firstCells],by simpa using VRs.nil,by simp [Builtin.lenOf,lenV],by simp [lenV]⟩
  · simp at h; subst h
    cases hx
    simp [lenV] at hk
    subst hk
    exact ⟨[],by simp [Builtin.firstCells,loadCells,loadCellsFrom],by simpa using VRs.nil,by simp [Builtin.lenOf,lenV],by simp [lenV]⟩
  · rename_i i o n c
    simp only [lenV] at hk
    cases hx with
    | sl _ _ B b S _ cp z hg hn hc hS =>
      obtain ⟨cs',h1,h2,h3⟩ := hs.row hg h
      have hkl : k * sz ≤ n * sz := Nat.mul_le_mul_right _ hk
      have hl := run_loadCells_list (P := P) (w := w) ⟨B,b + o,none⟩ (cs'.take (k * sz)) (fun j v hj => by
        rw [List.getElem?_take] at hj
        split at hj
        · exact h3 j v hj
        · cases hj)
      have e1 : (cs'.take (k * sz)).length = k * sz := by simp; omega
      rw [e1] at hl
      exact ⟨cs'.take (k * sz),by simp [Builtin.firstCells,hl],h2.take _,by simp [Builtin.lenOf,lenV],by rw [← h2.length,h1]; simp [lenV]⟩
  · rename_i s
    split at h
    · rename_i hsz
      subst hsz
      simp at h; subst h
      cases hx
      refine ⟨(s.data.toList.map byteV).take (k * 1),?_,(byteV_flat _).take _,by simp [Builtin.lenOf,lenV],by simp [lenV,ByteArray.toList_eq]⟩
      simp only [Builtin.firstCells,Sem.run_pure,ByteArray.toList_eq]
      congr 1
      apply Array.ext'
      simp
      rfl
    · cases h
  · cases h
theorem snd_cpy {N : Nat} {ts : Fr} {a : Act} (ha : AR G N ts a) (hs : St P w0 G m w) {t t2 ty e : TypeId} {i : TypeInfo} (ht : P.underlying t = some (.slice e)) (hi : P.info? e = some i)
    {x y : Operand} (hx : okX P N x = true) (hy : okX P N y = true) {v : Value} {m' : Mem} (h : dE ts m (.cpy i.size x y) = some (v,m')) :
    ∃ v' w',(Builtin.copy_ #[t,t2] ty #[a.eval x,a.eval y]).run P w = .ok v' w' ∧ Leaves P w0 w G v m' v' w' := by
  have vx := ev_VR ha hs x hx
  have vy := ev_VR ha hs y hy
  simp only [dE] at h
  split at h
  · rename_i ys j o n z hys hx'
    rw [hx'] at vx
    split at h
    case h_2 => cases h
    rename_i cs e' hown
    split at h
    case isFalse => cases h
    rename_i hc
    simp at h
    obtain ⟨rfl,rfl⟩ := h
    obtain ⟨ys',h1,h2,h3,h4⟩ := snd_first hs (k := min (lenV (ev ts y)) n) vy hys (by omega)
    generalize a.eval x = X at *
    generalize a.eval y = Y at *
    cases vx with
    | sl _ _ B b S _ cp _ hg hn hcp hS =>
      have hlen : (ys.take (min (lenV (ev ts y)) n * i.size)).length = min (lenV (ev ts y)) n * i.size := by
        have : min (lenV (ev ts y)) n * i.size ≤ lenV (ev ts y) * i.size := Nat.mul_le_mul_right _ (by omega)
        simp; omega
      obtain ⟨w',hr,hst⟩ := snd_put (o := o) hs hg hown (by rw [hlen]; exact hc.1) h2 (by
        rw [List.all_eq_true]
        intro v hv
        have := hc.2
        rw [List.all_eq_true] at this
        exact this v (List.mem_of_mem_take hv))
      refine ⟨.int .i64 (min (lenV (ev ts y)) n : Nat),w',?_,G,Loc.le_refl G,.int _ _,hst⟩
      have e1 : Nat.min (lenV (ev ts y)) n = min (lenV (ev ts y)) n := rfl
      simp [Builtin.copy_,run_underlying ht,run_sizeOf hi,h3,e1,h1,hr,goInt]
  · rename_i ys q z _ hys hx'
    rw [hx'] at vx
    simp at h
    obtain ⟨rfl,rfl⟩ := h
    obtain ⟨ys',h1,h2,h3,h4⟩ := snd_first hs (k := 0) vy hys (by omega)
    simp at h2
    cases h2
    generalize a.eval x = X at *
    generalize a.eval y = Y at *
    refine ⟨.int .i64 0,w,?_,G,Loc.le_refl G,.int _ _,hs⟩
    cases vx <;> simp [Builtin.copy_,run_underlying ht,run_sizeOf hi,h3,Nat.min_zero,h1,goInt,storeCells]
  · cases h
theorem snd_bsl (hs : St P w0 G m w) {N : Nat} {ts : Fr} {a : Act} (ha : AR G N ts a) {t e : TypeId} {i : TypeInfo} {z : Value} {len : Nat} {parts : Array (Nat × Operand)} (ht : P.underlying t = some (.slice e)) (hi : P.info? e = some i) (hz : i.zero = some z) (hlen : len * i.size ≤ 16777216)
    (hp : (madeCells z.cells (len * i.size)).toList.all (plainV 6) = true) (hpos : 0 < len * i.size) (hok : (parts.toList.all fun p => okX P N p.2) = true) {v : Value} {m' : Mem}
    (h : dE ts m (.bsl e i.size len (madeCells z.cells (len * i.size)).toList (parts.toList.map fun p => (p.1 * i.size,i.size,p.2))) = some (v,m')) :
    ∃ v' w',(Instr.buildSlice t len (parts.map fun (i,x) => (i,a.eval x))).run P w = .ok v' w' ∧ Leaves P w0 w G v m' v' w' := by
  simp only [dE] at h
  split at h
  · rename_i cs hf
    split at h
    case isFalse => cases h
    rename_i hcl
    simp at h
    obtain ⟨rfl,rfl⟩ := h
    have hz0 : VRs G (madeCells z.cells (len * i.size)).toList (madeCells z.cells (len * i.size)).toList := by
      rw [List.all_eq_true] at hp
      exact VRs.refl_of _ fun u hu => VR.plain 6 u (hp u hu)
    obtain ⟨r',hr1,hr2⟩ := fill_snd ha hs (fun q => some (q * i.size,i.size)) parts.toList _ hok (by simp) (fun p hp => rfl) _ _ cs hz0 hf
    have hn := own_new hs (e := e) (cs' := r') (extra := []) (0,0) (open00 _) hr2
    have emap : ((parts.map fun (i,x) => (i,a.eval x)).toList) = parts.toList.map fun p => (p.1,a.eval p.2) := by simp
    have hml : len ≤ maxLen := by
      have h0 : 0 < i.size := by
        rcases Nat.eq_zero_or_pos i.size with h0 | h0
        · rw [h0] at hpos; simp at hpos
        · exact h0
      have : len * 1 ≤ len * i.size := Nat.mul_le_mul_left _ h0
      unfold maxLen; omega
    have hne : ¬ (len * i.size > 2 ^ 24) := by omega
    have hne2 : ¬ (len * i.size = 0) := by omega
    refine ⟨.slice (some ⟨w.heap.size,0,none⟩) len len,w.alloc (.cells ⟨r'⟩ e),?_,_,hn.1,?_,by simpa using hn.2⟩
    · have hr1' : Instr.fill (fun q => some (q * i.size,i.size)) (Array.map (fun x => z.cells[x % z.cells.size]!) (Array.range (len * i.size))) (parts.toList.map fun p => (p.1,a.eval p.2)) = some ⟨r'⟩ := hr1
      simp [Instr.buildSlice,run_underlying ht,run_sizeOf hi,hne,hne2,zeroValue,typeInfo,hi,hz,hr1',newRow]
    · refine .sl _ _ _ _ ((r' ++ []).length) _ _ _ (by simp) (Nat.le_refl _) hml (by simp [hr2.length,hcl])
  · cases h
end
end Go.Proofs.YtccjlggpiliilaaGreatDoor.Ab

set_option linter.unusedVariables false
set_option linter.unusedSimpArgs false
namespace Go.Proofs.YtccjlggpiliilaaGreatDoor.Ab
open Go Go.RowKit
def resE1 (P : Program) (N : Nat) (o : Oper) : Option EO :=
  if o.op.operands.all (okX P N) then
    match o.op with
    | .alloc t => match P.info? t with
      | some i => match i.zero with
        | some z => if plainV 6 z then some (.al (cellsV z) t) else none
        | none => none
      | none => none
    | .box t x => some (.bx t x)
    | .buildSlice t len parts => match P.underlying t with
      | some (.slice e) => match P.info? e with
        | some i => match i.zero with
          | some z => if len * i.size ≤ 16777216 ∧ 0 < len * i.size ∧ (madeCells z.cells (len * i.size)).toList.all (plainV 6) = true then
              some (.bsl e i.size len (madeCells z.cells (len * i.size)).toList (parts.toList.map fun p => (p.1 * i.size,i.size,p.2))) else none
          | none => none
        | none => none
      | _ => none
    | .store t p x => match P.info? t with
      | some i => some (.st i.size p x)
      | none => none
    | .makeSlice t n c => match P.underlying t with
      | some (.slice e) => match P.info? e with
        | some i => match i.zero with
          | some z => if i.size = 1 ∧ z.cells.size = 1 ∧ flatV z = true then some (.mks e i.bytes z n c) else none
          | none => none
        | none => none
      | _ => none
    | .convert s t x => match P.underlying s,P.underlying t with
      | some .string,some (.slice e) => match P.underlying e with
        | some (.int .u8) => some (.s2b e x)
        | _ => none
      | _,_ => none
    | .call { callee := .builtin .append,args,argTypes } => match args.toList,argTypes.toList with
      | [x,y],[t,t2] => match P.underlying t with
        | some (.slice e) => match P.info? e with
          | some i => match i.zero with
            | some z => if noInt P t2 = true ∧ z.cells.size = i.size then some (.app e i.size i.bytes x y) else none
            | none => none
          | none => none
        | _ => none
      | _,_ => none
    | .call { callee := .builtin .copy,args,argTypes } => match args.toList,argTypes.toList with
      | [x,y],[t,_] => match P.underlying t with
        | some (.slice e) => match P.info? e with
          | some i => some (.cpy i.size x y)
          | none => none
        | _ => none
      | _,_ => none
    | _ => none
  else none
theorem flat_cells {z : Value} (h : flatV z = true) (h1 : z.cells.size = 1) : z.cells = #[z] := by
  unfold flatV at h
  split at h <;> first | rfl | cases h
section
variable {P : Program} {w0 w : World} {G : Loc} {m : Mem}
def OkOp (P : Program) (a : Act) (o : Oper) (w : World) (v' : Value) (w' : World) : Prop :=
  (execOp a.eval o).run P w = .ok (.value v') w' ∨ ((execOp a.eval o).run P w = .ok .skip w' ∧ v' = undef)
set_option maxHeartbeats 2000000 in
theorem resE1_snd {N : Nat} {ts : Fr} {a : Act} {o : Oper} {r : EO} {v : Value} {m' : Mem} (hr : resE1 P N o = some r) (ha : AR G N ts a) (hs : St P w0 G m w) (hd : dE ts m r = some (v,m')) :
    ∃ v' w',OkOp P a o w v' w' ∧ Leaves P w0 w G v m' v' w' := by
  obtain ⟨dst,op,ty,pos,after,guard⟩ := o
  unfold resE1 at hr
  split at hr
  case isFalse => cases hr
  rename_i hok0
  have hok := okX_of hok0
  clear hok0
  have hE : ∀ x,okX P N x = true → VR G (ev ts x) (a.eval x) := fun x hx => ev_VR ha hs x hx
  cases op <;> simp only [Op.operands] at hok hr <;> try (cases hr; done)
  case alloc t =>
    split at hr
    · rename_i i hi
      split at hr
      · rename_i z hz
        split at hr
        · rename_i hp
          simp at hr; subst hr
          simp [dE] at hd
          obtain ⟨rfl,rfl⟩ := hd
          obtain ⟨v',w',h1,h2⟩ := snd_al hs hi hz hp
          exact ⟨v',w',.inl (by simp [execOp,h1]),h2⟩
        · cases hr
      · cases hr
    · cases hr
  case box t x =>
    simp at hr; subst hr
    simp [dE] at hd
    obtain ⟨rfl,rfl⟩ := hd
    obtain ⟨v',w',h1,h2⟩ := snd_bx hs (t := t) (hE x (hok x (by simp)))
    exact ⟨v',w',.inl (by simp [execOp,h1]),h2⟩
  case buildSlice t len parts =>
    have hokp : (parts.toList.all fun p => okX P N p.2) = true := by
      rw [List.all_eq_true]
      intro p hp
      exact hok p.2 (by simp; exact ⟨p.1,by simpa using hp⟩)
    split at hr
    · rename_i e hu
      split at hr
      · rename_i i hi
        split at hr
        · rename_i z hz
          split at hr
          · rename_i hc
            simp only [Option.some.injEq] at hr; subst hr
            obtain ⟨v',w',h1,h2⟩ := snd_bsl hs ha hu hi hz hc.1 hc.2.2 hc.2.1 hokp hd
            exact ⟨v',w',.inl (by simp only [execOp]; rw [Sem.run_bind,h1]; rfl),h2⟩
          · cases hr
        · cases hr
      · cases hr
    · cases hr
  case store t p x =>
    split at hr
    · rename_i i hi
      simp at hr; subst hr
      have vp := hE p (hok p (by simp))
      have vx := hE x (hok x (by simp))
      simp only [dE] at hd
      split at hd
      · rename_i j o hp
        rw [hp] at vp
        split at hd
        · rename_i cs e hown
          split at hd
          · rename_i hc
            simp at hd
            obtain ⟨rfl,rfl⟩ := hd
            obtain ⟨w',h1,h2⟩ := snd_st hs hi rfl vp vx hown hc.1 hc.2.1 hc.2.2
            exact ⟨undef,w',.inr ⟨by simp [execOp,h1],rfl⟩,G,Loc.le_refl G,VR.undef G,h2⟩
          · cases hd
        · cases hd
      · cases hd
    · cases hr
  case makeSlice t n c =>
    split at hr
    · rename_i e hu
      split at hr
      · rename_i i hi
        split at hr
        · rename_i z hz
          split at hr
          · rename_i hc
            simp at hr; subst hr
            have hzc := flat_cells hc.2.2 hc.2.1
            have hp : plainV 6 z = true := by
              have hf := hc.2.2
              cases z <;> simp [flatV] at hf <;> first | rfl | (simp [plainV,flatV]; done) | (simp [plainV,flatV]; exact hf)
            obtain ⟨v',w',h1,h2⟩ := snd_mks hs ha hu hi hz hc.1 hzc hp (hok n (by simp)) (hok c (by simp)) hd
            exact ⟨v',w',.inl (by simp [execOp,h1]),h2⟩
          · cases hr
        · cases hr
      · cases hr
    · cases hr
  case convert s t x =>
    split at hr
    · rename_i e hus hut
      split at hr
      · rename_i hue
        simp at hr; subst hr
        obtain ⟨v',w',h1,h2⟩ := snd_s2b hs ha hus hut hue (hok x (by simp)) hd
        exact ⟨v',w',.inl (by simp [execOp,h1]),h2⟩
      · cases hr
    · cases hr
  case call c =>
    obtain ⟨cal,args,argT⟩ := c
    cases cal with
    | value f => simp at hr
    | invoke r mm => simp at hr
    | builtin b =>
      simp only [Call.operands] at hok
      cases b <;> simp only [] at hr <;> first | (cases hr; done) | skip
      case append =>
        split at hr
        · rename_i x y t t2 hargs hts
          obtain rfl : args = #[x,y] := by apply Array.ext'; simpa using hargs
          obtain rfl : argT = #[t,t2] := by apply Array.ext'; simpa using hts
          split at hr
          · rename_i e hu
            split at hr
            · rename_i i hi
              split at hr
              · rename_i z hz
                split at hr
                · rename_i hc
                  simp at hr; subst hr
                  obtain ⟨v',w',h1,h2⟩ := snd_app (ty := ty) ha hs hu hc.1 hi hz hc.2 (hok x (by simp)) (hok y (by simp)) hd
                  exact ⟨v',w',.inl (by simp [execOp,resolve,invoke,builtin,h1]),h2⟩
                · cases hr
              · cases hr
            · cases hr
          · cases hr
        · cases hr
      case copy =>
        split at hr
        · rename_i x y t t2 hargs hts
          obtain rfl : args = #[x,y] := by apply Array.ext'; simpa using hargs
          obtain rfl : argT = #[t,t2] := by apply Array.ext'; simpa using hts
          split at hr
          · rename_i e hu
            split at hr
            · rename_i i hi
              simp at hr; subst hr
              obtain ⟨v',w',h1,h2⟩ := snd_cpy (t2 := t2) (ty := ty) ha hs hu hi (hok x (by simp)) (hok y (by simp)) hd
              exact ⟨v',w',.inl (by simp [execOp,resolve,invoke,builtin,h1]),h2⟩
            · cases hr
          · cases hr
        · cases hr
end
end Go.Proofs.YtccjlggpiliilaaGreatDoor.Ab

set_option linter.unusedVariables false
set_option linter.unusedSimpArgs false
namespace Go.Proofs.YtccjlggpiliilaaGreatDoor.Ab
open Go Go.RowKit
def resE2 (P : Program) (N : Nat) (o : Oper) : Option EO :=
  if o.op.operands.all (okX P N) then
    match o.op with
    | .makeMap t none => match P.underlying t with
      | some (.map _ _) => some .mkm
      | _ => none
    | .mapUpdate t x k v => match P.underlying t with
      | some (.map kt _) => match P.underlying kt with
        | some (.int _) => some (.mup 0 x k v)
        | some .string => some (.mup 1 x k v)
        | some (.array 2 ke) => if pairK P ke = true then some (.mup 2 x k v) else none
        | _ => none
      | _ => none
    | .insert t x k v => match P.underlying t with
      | some (.map kt _) => match P.underlying kt with
        | some (.int _) => some (.mup 0 x k v)
        | some .string => some (.mup 1 x k v)
        | some (.array 2 ke) => if pairK P ke = true then some (.mup 2 x k v) else none
        | _ => none
      | _ => none
    | .range t x => match P.underlying t with
      | some (.map _ _) => some (.rgm x)
      | _ => none
    | .call { callee := .builtin .unsafeString,args,argTypes } => match args.toList,argTypes.toList with
      | [p,n],[t,_] => match P.underlying t with
        | some (.pointer e) => if P.cellsOf e = 1 then some (.ust e p n) else none
        | _ => none
      | _,_ => none
    | .convert s t x => if s = t then match P.underlying t with
        | some (.slice e) => match P.underlying e with
          | some (.int .u8) => some (.cvm e x)
          | _ => none
        | _ => none
      else none
    | _ => none
  else none
section
variable {P : Program} {w0 w : World} {G : Loc} {m : Mem}
theorem run_loadB : ∀ (ns : List Int) (a : Addr) (acc : ByteArray),(∀ (j : Nat) (n : Int),ns[j]? = some n → w.cell? (a.add j) = some (.int .u8 n)) →
    (loadBytes a acc ns.length).run P w = .ok ⟨acc.data ++ (ns.map fun n => UInt8.ofNat n.toNat).toArray⟩ w
  | [],a,acc,_ => by simp [loadBytes]
  | x :: l,a,acc,h => by
    have h0 : w.cell? a = some (.int .u8 x) := by
      have := h 0 x rfl
      simpa [Addr.add] using this
    have ih := run_loadB l (a.add 1) (acc.push (UInt8.ofNat x.toNat)) (fun j y hy => by
      have := h (j + 1) y (by simpa using hy)
      have e : (a.add 1).add j = a.add (j + 1) := by
        unfold Addr.add
        by_cases hj : j = 0
        · subst hj; simp
        · simp [hj]; omega
      rw [e]; exact this)
    simp only [List.length_cons,loadBytes,Sem.run_bind,run_load,h0,Result.andThen,Nat.toUInt8]
    show (loadBytes (a.add 1) (acc.push (UInt8.ofNat x.toNat)) l.length).run P w = _
    rw [ih]
    congr 1
    apply ByteArray.ext
    simp [ByteArray.push]
theorem run_ust (pt it ty e : TypeId) (hp : P.underlying pt = some (.pointer e)) (hc : P.cellsOf e = 1) (g o cells : Nat) (hsh : w.shape? g = some (e,cells)) (ns : List Int) (h0 : ns.length ≠ 0) (hn : o + ns.length ≤ cells) (h63 : ns.length ≤ 9223372036854775807)
    (hcell : ∀ (j : Nat) (n : Int),ns[j]? = some n → w.cell? ((⟨g,o,none⟩ : Addr).add j) = some (.int .u8 n)) :
    (Builtin.unsafeString_ #[pt,it] ty #[.pointer (some ⟨g,o,none⟩),.int .i64 ns.length]).run P w = .ok (.string ⟨(ns.map fun n => UInt8.ofNat n.toNat).toArray⟩) (w.freeze ⟨g,o,none⟩ ns.length) := by
  have hlb := run_loadB (P := P) (w := w) ns ⟨g,o,none⟩ .empty hcell
  have hlies : liesAt P P.depth e (cells / P.cellsOf e) o e ns.length = true := liesAt_at _ _ _ (by rw [hc]; omega) (by rw [hc]; exact Nat.mod_one _) (by rw [hc]; simpa using hn)
  have h63' : ¬ (9223372036854775807 : Int) < (ns.length : Int) := by omega
  have hdef : Builtin.unsafeString_ #[pt,it] ty #[.pointer (some ⟨g,o,none⟩),.int .i64 ns.length] =
      (do
        let n ← asInt (.int .i64 ns.length)
        if n < 0 then runtimePanic (.error "unsafe.String: len out of range")
        if n > IntKind.i64.max then unsupported (.unsafePointer "String: a length above the largest int")
        if n = 0 then pure (.string .empty)
        else if ← variablesAt ⟨g,o,none⟩ (← elemOf pt) n.toNat then do
          let s ← loadBytes ⟨g,o,none⟩ .empty n.toNat
          freeze ⟨g,o,none⟩ n.toNat
          pure (.string s)
        else unsupported (.unsafePointer "String: not so many bytes at ptr")) := rfl
  rw [hdef]
  have hmax : IntKind.i64.max = 9223372036854775807 := rfl
  have hneg : ¬ (ns.length : Int) < 0 := by omega
  simp [asInt,asIntOf,hmax,h63',hneg,h0,variablesAt,hsh,elemOf,run_underlying hp,hlies,hlb]
theorem freeze_spec (w : World) (g o n : Nat) : (w.freeze ⟨g,o,none⟩ n).os = w.os ∧ (w.freeze ⟨g,o,none⟩ n).tape = w.tape ∧ (w.freeze ⟨g,o,none⟩ n).output = w.output ∧ (w.freeze ⟨g,o,none⟩ n).heap.size = w.heap.size ∧ ∀ k,k ≠ g → (w.freeze ⟨g,o,none⟩ n).heap[k]? = w.heap[k]? := by
  unfold World.freeze
  split
  · exact ⟨rfl,rfl,rfl,rfl,fun _ _ => rfl⟩
  · refine ⟨rfl,rfl,rfl,by simp,fun k hk => ?_⟩
    simp only [Array.getElem?_modify]
    rw [if_neg (fun e => hk e.symm)]
theorem snd_ust {N : Nat} {ts : Fr} {a : Act} (ha : AR G N ts a) (hs : St P w0 G m w) {t it ty e : TypeId} (ht : P.underlying t = some (.pointer e)) (hc : P.cellsOf e = 1) {p n : Operand} (hp : okX P N p = true) (hn : okX P N n = true) {v : Value} {m' : Mem}
    (h : dE ts m (.ust e p n) = some (v,m')) : ∃ v' w',(Builtin.unsafeString_ #[t,it] ty #[a.eval p,a.eval n]).run P w = .ok v' w' ∧ Leaves P w0 w G v m' v' w' := by
  have vp := ev_VR ha hs p hp
  have vn := ev_VR ha hs n hn
  simp only [dE] at h
  split at h
  · rename_i k h1 h2
    rw [h1] at vp; rw [h2] at vn
    split at h
    case isFalse => cases h
    rename_i hk
    simp at h
    obtain ⟨rfl,rfl⟩ := h
    subst hk
    generalize a.eval p = X at *
    generalize a.eval n = Y at *
    cases vp; cases vn
    exact ⟨_,w,Lib.run_unsafeString_none (P := P) w t it ty none,G,Loc.le_refl G,.str _,hs⟩
  · rename_i i o k h1 h2
    rw [h1] at vp; rw [h2] at vn
    generalize a.eval p = X at *
    generalize a.eval n = Y at *
    cases vn
    cases vp with
    | ptr _ _ B b S hg =>
    split at h
    · rename_i hk
      simp at h
      obtain ⟨rfl,rfl⟩ := h
      subst hk
      exact ⟨_,w,Lib.run_unsafeString_none (P := P) w t it ty (some ⟨B,b + o,none⟩),G,Loc.le_refl G,.str _,hs⟩
    · rename_i hk0
      split at h
      case isFalse => cases h
      rename_i hk
      split at h
      case h_2 => cases h
      rename_i cs e' hown
      split at h
      case isFalse => cases h
      rename_i hcond
      obtain ⟨rfl,hle⟩ := hcond
      split at h
      case h_2 => cases h
      rename_i bs hbs
      simp at h
      obtain ⟨rfl,rfl⟩ := h
      obtain ⟨ns,hns,rfl⟩ := bytesOf_cells hbs
      obtain ⟨c,fz,hw,hcell,hl⟩ := own_real hs hg hown
      have hl := hl (by omega)
      have hlen : ns.length = k.toNat := by
        have := congrArg List.length hns
        simp at this
        omega
      have hsh : w.shape? B = some (e',c.size) := by simp [World.shape?,hw]
      have hrow : m.row i o k.toNat = some (ns.map (Value.int .u8)) := by
        rw [← hns]
        simp [Mem.row,hown,Ent.cells?,hle]
      obtain ⟨cs',r1,r2,r3⟩ := hs.row hg hrow
      have := VRs.ints r2
      subst this
      have hr := run_ust (P := P) (w := w) t it ty e' ht hc B (b + o) c.size hsh ns (by omega) (by omega) (by omega) (fun j q hq => r3 j _ (by simp [hq]))
      have hkn : (ns.length : Int) = k := by omega
      rw [hkn] at hr
      obtain ⟨f1,f2,f3,f4,f5⟩ := freeze_spec w B (b + o) ns.length
      refine ⟨_,_,hr,G,Loc.le_refl G,.str _,?_⟩
      exact hs.write (e := .dead) (by rw [hown]; rfl) hg f1 f2 f3 f4 f5 trivial (fun _ _ he => by cases he)
  · cases h
theorem snd_mkm (hs : St P w0 G m w) {t k e : TypeId} (ht : P.underlying t = some (.map k e)) : ∃ v' w',(Instr.makeMap t none).run P w = .ok v' w' ∧ Leaves P w0 w G (.map (some m.next)) (m.push (.map [] 0)) v' w' := by
  have h := hs.alloc (.map #[] 0) (.map [] 0) 0 ⟨hs.below.size,rfl,[],heap_alloc_new w _,rfl,.nil,.nil⟩
  refine ⟨.map (some w.heap.size),w.alloc (.map #[] 0),?_,_,h.1,.map _ _ 0 (by simp),h.2⟩
  simp [Instr.makeMap,newObj,Sem.run]
theorem VR.flat_eq {G : Loc} {v v' : Value} (hf : flatV v = true) (h : VR G v v') : v' = v := by
  cases h <;> first | rfl | (simp [flatV] at hf; done)
theorem mapPut_get : ∀ (es : List MapEntry) (i : Nat) (k v : Value) (j : Nat),(mapPut es i k v)[j]? = (es.modify i fun e => { e with key := k,val := v })[j]?
  | [],i,k,v,j => by simp [mapPut]
  | e :: es,0,k,v,j => by cases j <;> simp [mapPut]
  | e :: es,i + 1,k,v,0 => by simp [mapPut]
  | e :: es,i + 1,k,v,j + 1 => by simp [mapPut,mapPut_get es i k v j]
theorem mapPut_born : ∀ (es es' : List MapEntry) (i : Nat) (k v k' v' : Value),es'.map (·.born) = es.map (·.born) → (mapPut es' i k' v').map (·.born) = (mapPut es i k v).map (·.born)
  | [],[],i,k,v,k',v',h => rfl
  | [],e' :: es',i,k,v,k',v',h => by simp at h
  | e :: es,[],i,k,v,k',v',h => by simp at h
  | e :: es,e' :: es',0,k,v,k',v',h => by simpa [mapPut] using h
  | e :: es,e' :: es',i + 1,k,v,k',v',h => by
    simp only [List.map_cons,List.cons.injEq] at h
    simp [mapPut,h.1,mapPut_born es es' i k v k' v' h.2]
theorem mapPut_keys {k v k' v' : Value} (hk : VR G k k') : ∀ (es es' : List MapEntry) (i : Nat),VRs G (es.map (·.key)) (es'.map (·.key)) → VRs G ((mapPut es i k v).map (·.key)) ((mapPut es' i k' v').map (·.key))
  | [],[],i,h => .nil
  | [],e' :: es',i,h => by cases h
  | e :: es,[],i,h => by cases h
  | e :: es,e' :: es',0,h => by cases h with | cons _ _ _ _ a b => exact .cons _ _ _ _ hk b
  | e :: es,e' :: es',i + 1,h => by cases h with | cons _ _ _ _ a b => exact .cons _ _ _ _ a (mapPut_keys hk es es' i b)
theorem mapPut_vals {k v k' v' : Value} (hv : VR G v v') : ∀ (es es' : List MapEntry) (i : Nat),VRs G (es.map (·.val)) (es'.map (·.val)) → VRs G ((mapPut es i k v).map (·.val)) ((mapPut es' i k' v').map (·.val))
  | [],[],i,h => .nil
  | [],e' :: es',i,h => by cases h
  | e :: es,[],i,h => by cases h
  | e :: es,e' :: es',0,h => by cases h with | cons _ _ _ _ a b => exact .cons _ _ _ _ hv b
  | e :: es,e' :: es',i + 1,h => by cases h with | cons _ _ _ _ a b => exact .cons _ _ _ _ a (mapPut_vals hv es es' i b)
theorem same_flat {kk : Nat} {x y : Value} {b : Bool} (h : keyIs kk x y = some b) (n : Nat) : Instr.sameBits (n + 1) x x = true := by
  unfold keyIs at h
  split at h
  · simp [Instr.sameBits]
  · rename_i s t
    have e0 : (s == s) = (s.data == s.data) := rfl
    simp [Instr.sameBits,e0]
  · simp [Instr.sameBits]
  · cases h
theorem mapFind_key {kk : Nat} {k : Value} : ∀ (es : List MapEntry) (i : Nat) (r : Nat × Value),mapFind kk k es i = some (some r) → ∃ y,keyIs kk k y = some true
  | [],i,r,h => by simp [mapFind] at h
  | e :: es,i,r,h => by
    simp only [mapFind] at h
    split at h
    · rename_i hq; exact ⟨_,hq⟩
    · exact mapFind_key es _ _ h
    · cases h
theorem keyStays {kk : Nat} {x y : Value} {b : Bool} (h : keyIs kk x y = some b) : (Instr.keyThatStays x x).run P w = .ok x w := by
  have := same_flat h 9999
  simp only [Instr.keyThatStays,this,if_true,Sem.run_pure]
theorem snd_mup {N : Nat} {ts : Fr} {a : Act} (ha : AR G N ts a) (hs : St P w0 G m w) {kk : Nat} {mt kt e : TypeId} {d : TypeDesc} (hm : P.underlying mt = some (.map kt e)) (hu : P.underlying kt = some d) (hd : kdP P kk d)
    {x y z : Operand} (hx : okX P N x = true) (hy : okX P N y = true) (hz : okX P N z = true) {v : Value} {m' : Mem} (h : dE ts m (.mup kk x y z) = some (v,m')) :
    ∃ w',(Instr.mapUpdate mt (a.eval x) (a.eval y) (a.eval z)).run P w = .ok () w' ∧ v = undef ∧ St P w0 G m' w' := by
  have vx := ev_VR ha hs x hx
  have vy := ev_VR ha hs y hy
  have vz := ev_VR ha hs z hz
  simp only [dE] at h
  generalize a.eval x = X at *
  generalize a.eval y = Y at *
  generalize a.eval z = Z at *
  split at h
  case h_2 => cases h
  rename_i r hq
  rw [hq] at vx
  split at h
  case isFalse => cases h
  rename_i hpp
  split at h
  case h_2 => cases h
  rename_i es cl hr
  cases vx with
  | map _ B S hg =>
  obtain ⟨es',h1,h2,h3,h4⟩ := map_get hs hr hg
  have hc := check_run (P := P) (w := w) hu hd hpp vy false
  have hgo : (getObj B).run P w = .ok (.map es'.toArray cl) w := by simp [getObj,Sem.run,h1]
  have hso : ∀ o : Obj,(setObj B o).run P w = .ok () { w with heap := w.heap.setIfInBounds B o } := fun o => by simp [setObj,Sem.run,h1]
  have hlt : B < w.heap.size := by
    rcases Nat.lt_or_ge B w.heap.size with h' | h'
    · exact h'
    · rw [Array.getElem?_eq_none h'] at h1; cases h1
  have hwr : ∀ (es1 es1' : List MapEntry) (cl1 : Nat),es1'.map (·.born) = es1.map (·.born) → VRs G (es1.map (·.key)) (es1'.map (·.key)) → VRs G (es1.map (·.val)) (es1'.map (·.val)) → St P w0 G (m.set r (.map es1 cl1)) { w with heap := w.heap.setIfInBounds B (.map es1'.toArray cl1) } := by
    intro es1 es1' cl1 g1 g2 g3
    refine hs.write (e := .map es1 cl1) (by rw [hr]; rfl) hg rfl rfl rfl (by simp) (fun k hk => ?_) ⟨?_,rfl,es1',by simp [hlt],g1,g2,g3⟩ (fun _ _ he => by cases he)
    · show (w.heap.setIfInBounds B _)[k]? = _
      rw [Array.getElem?_setIfInBounds,if_neg (fun e => hk e.symm)]
    · obtain ⟨B',b',S',g',r'⟩ := hs.ent r (by rw [hr]; simp)
      rw [hg] at g'; cases g'
      rw [hr] at r'
      exact r'.1
  split at h
  · rename_i i v1 hf
    simp at h
    obtain ⟨rfl,rfl⟩ := h
    rcases find_run (P := P) (w := w) hu hd hpp vy h3 h4 hf with ⟨e1,_⟩ | ⟨j',v2,v',e',e1,hf',e3,e4,e5,hYe⟩
    · cases e1
    · simp at e1
      obtain ⟨rfl,rfl⟩ := e1
      obtain ⟨y0,hy0⟩ := mapFind_key _ _ _ hf
      have hks := keyStays (P := P) (w := w) hy0
      rw [← hYe] at hks
      have hmod : (es'.modify i fun e => { key := Y,val := Z,born := e.born }) = mapPut es' i Y Z := (List.ext_getElem? (mapPut_get es' i Y Z)).symm
      refine ⟨_,?_,rfl,hwr (mapPut es i (ev ts y) (ev ts z)) (mapPut es' i Y Z) cl (mapPut_born _ _ _ _ _ _ _ h2) (mapPut_keys vy _ _ _ h3) (mapPut_vals vz _ _ _ h4)⟩
      have hat : (es'[i]?.map (·.key)).getD Y = Y := by rw [e4]; simp [e5]
      simp [Instr.mapUpdate,run_underlying hm,hgo,hc,hf',e4,e5,hks,hso,hmod]
  · rename_i hf
    simp at h
    obtain ⟨rfl,rfl⟩ := h
    rcases find_run (P := P) (w := w) hu hd hpp vy h3 h4 hf with ⟨e1,hf'⟩ | ⟨j',v2,v',e',e1,e2,e3,_⟩
    · refine ⟨_,?_,rfl,hwr (es ++ [⟨ev ts y,ev ts z,cl⟩]) (es' ++ [⟨Y,Z,cl⟩]) (Nat.succ cl) (by simp [h2]) (by simpa using VRs.append h3 (.cons _ _ _ _ vy .nil)) (by simpa using VRs.append h4 (.cons _ _ _ _ vz .nil))⟩
      simp [Instr.mapUpdate,run_underlying hm,hgo,hc,hf',hso]
    · cases e1
  · cases h
theorem snd_rgm {N : Nat} {ts : Fr} {a : Act} (ha : AR G N ts a) (hs : St P w0 G m w) {mt kt e : TypeId} (hm : P.underlying mt = some (.map kt e)) {x : Operand} (hx : okX P N x = true) {v : Value} {m' : Mem} (h : dE ts m (.rgm x) = some (v,m')) :
    ∃ v' w',(Instr.range mt (a.eval x)).run P w = .ok v' w' ∧ Leaves P w0 w G v m' v' w' := by
  have vx := ev_VR ha hs x hx
  simp only [dE] at h
  generalize a.eval x = X at *
  have mk : ∀ (q q' : Option Nat) (since : Nat),VR G (.map q) (.map q') → ∃ G',Loc.le G G' ∧ VR G' (.pointer (some ⟨m.next,0,none⟩)) (.pointer (some ⟨w.heap.size,0,none⟩)) ∧ St P w0 G' (m.push (.miter q since [] since)) (w.alloc (.mapIter q' since #[] since)) := by
    intro q q' since hv
    have hle : Loc.le G (fun i => if i = m.next then some (w.heap.size,0,0) else G i) := by
      intro i x hx
      have := hs.dom i x hx
      show (if i = m.next then some (w.heap.size,0,0) else G i) = some x
      rw [if_neg (by omega)]; exact hx
    have hh := hs.alloc (.mapIter q' since #[] since) (.miter q since [] since) 0 ⟨hs.below.size,rfl,q',heap_alloc_new w _,hv.mono hle⟩
    have hp := VR.ptr (G := fun i => if i = m.next then some (w.heap.size,0,0) else G i) m.next 0 w.heap.size 0 0 (by simp)
    exact ⟨_,hh.1,by simpa using hp,hh.2⟩
  split at h
  · rename_i hq
    rw [hq] at vx
    simp at h
    obtain ⟨rfl,rfl⟩ := h
    cases vx
    obtain ⟨G',h1,h2,h3⟩ := mk none none 0 .nilm
    exact ⟨_,_,by simp [Instr.range,run_underlying hm,newObj,Sem.run],G',h1,h2,h3⟩
  · rename_i r hq
    rw [hq] at vx
    split at h
    case h_2 => cases h
    rename_i es cl hr
    simp at h
    obtain ⟨rfl,rfl⟩ := h
    cases vx with
    | map _ B S hg =>
    obtain ⟨es',e1,-⟩ := map_get hs hr hg
    obtain ⟨G',h1,h2,h3⟩ := mk (some r) (some B) cl (.map _ _ _ hg)
    have hgo : (getObj B).run P w = .ok (.map es'.toArray cl) w := by simp [getObj,Sem.run,e1]
    refine ⟨_,_,?_,G',h1,h2,h3⟩
    simp only [Instr.range,Sem.run_bind,run_underlying hm,Result.andThen_ok,hgo,Sem.run_pure]
    simp [newObj,Sem.run]
  · cases h
theorem Mem.set_id {m : Mem} {i : Nat} {e : Ent} (h : m.get i = e) : m.set i e = m := by
  obtain ⟨n,g⟩ := m
  unfold Mem.set
  congr 1
  funext k
  split
  · rename_i hk; subst hk; exact h.symm
  · rfl
theorem snd_cvm {N : Nat} {ts : Fr} {a : Act} (ha : AR G N ts a) (hs : St P w0 G m w) {t e : TypeId} (ht : P.underlying t = some (.slice e)) (he : P.underlying e = some (.int .u8)) {x : Operand} (hx : okX P N x = true) {v : Value} {m' : Mem} (h : dE ts m (.cvm e x) = some (v,m')) :
    ∃ v' w',(convert t t (a.eval x)).run P w = .ok v' w' ∧ Leaves P w0 w G v m' v' w' := by
  have vx := ev_VR ha hs x hx
  simp only [dE] at h
  split at h
  case h_2 => cases h
  rename_i i o n z hev
  split at h
  case h_2 => cases h
  rename_i cs e' hget
  split at h
  case isFalse => cases h
  rename_i hee
  subst hee
  simp only [Option.some.injEq,Prod.mk.injEq] at h
  obtain ⟨rfl,rfl⟩ := h
  rw [hev] at vx
  generalize a.eval x = y at vx
  cases vx with
  | sl _ _ B b S _ c _ hg hn hc hS =>
    obtain ⟨h0,C,fz,hw,hCS,hfz,hcell,-⟩ := own_get hs hg hget
    have hsh : w.shape? B = some (e',C.size) := by unfold World.shape?; rw [hw]
    have hlt : B < w.heap.size := (Array.getElem?_eq_some_iff.1 hw).1
    obtain ⟨lo,hi⟩ := fz
    obtain ⟨hf1,hf2⟩ := hfz
    refine ⟨.slice (some ⟨B,b + o,none⟩) n c,w.freeze ⟨B,C.size,none⟩ 1,?_,G,Loc.le_refl G,.sl _ _ _ _ _ _ _ _ hg hn hc hS,?_⟩
    · simp [convert,run_underlying ht,run_underlying he,markStringish,hsh]
    · have hfr : w.freeze ⟨B,C.size,none⟩ 1 = { w with heap := w.heap.modify B fun
          | .cells c elem (lo,hi) => .cells c elem (if lo == hi then (C.size,C.size + 1) else (min lo C.size,max hi (C.size + 1)))
          | o => o } := by unfold World.freeze; rw [if_neg (by decide)]; rfl
      rw [hfr]
      have := hs.write (i := i) (e := .own cs e') (w' := { w with heap := w.heap.modify B fun
          | .cells c elem (lo,hi) => .cells c elem (if lo == hi then (C.size,C.size + 1) else (min lo C.size,max hi (C.size + 1)))
          | o => o }) (by rw [hget]; rfl) hg rfl rfl rfl (by simp) (fun k hk => by simp [Array.getElem?_modify,Ne.symm hk]) ⟨h0,C,(if lo == hi then (C.size,C.size + 1) else (min lo C.size,max hi (C.size + 1))),?_,hCS,?_,hcell⟩ (fun cs' e2 hE => by cases hE; exact ⟨cs,hget⟩)
      · rw [Mem.set_id hget] at this
        exact this
      · simp only [Array.getElem?_modify,hw,if_true,Option.map_some]
      · by_cases hlh : lo = hi
        · have hb : (lo == hi) = true := by simpa using hlh
          rw [hb]
          exact ⟨fun q hq h => by simp at h; omega,by simp⟩
        · have hb : (lo == hi) = false := by simpa using hlh
          rw [hb]
          have hf2 : lo ≤ hi := hf2
          have hlo : C.size ≤ lo := by
            rcases Nat.lt_or_ge lo C.size with h' | h'
            · exact absurd ⟨Nat.le_refl _,by show lo < hi; omega⟩ (hf1 lo h')
            · exact h'
          refine ⟨fun q hq h => ?_,?_⟩
          · simp at h; omega
          · simp; omega
theorem resE2_snd {N : Nat} {ts : Fr} {a : Act} {o : Oper} {r : EO} {v : Value} {m' : Mem} (hr : resE2 P N o = some r) (ha : AR G N ts a) (hs : St P w0 G m w) (hd : dE ts m r = some (v,m')) :
    ∃ v' w',OkOp P a o w v' w' ∧ Leaves P w0 w G v m' v' w' := by
  obtain ⟨dst,op,ty,pos,after,guard⟩ := o
  unfold resE2 at hr
  split at hr
  case isFalse => cases hr
  rename_i hok0
  have hok := okX_of hok0
  clear hok0
  cases op <;> simp only [Op.operands] at hok hr <;> try (cases hr; done)
  case makeMap t rs =>
    cases rs with
    | some x => simp at hr
    | none =>
      simp only [] at hr
      split at hr
      case h_2 => cases hr
      rename_i k e hu
      simp at hr; subst hr
      simp [dE] at hd
      obtain ⟨rfl,rfl⟩ := hd
      obtain ⟨v',w',h1,h2⟩ := snd_mkm hs hu
      exact ⟨v',w',.inl (by simp [execOp,h1]),h2⟩
  case mapUpdate t x k v =>
    split at hr
    case h_2 => cases hr
    rename_i kt e hm
    split at hr
    · rename_i ik hu
      simp at hr; subst hr
      obtain ⟨w',h1,rfl,h2⟩ := snd_mup ha hs hm hu (kk := 0) (.inl ⟨rfl,ik,rfl⟩) (hok x (by simp)) (hok k (by simp)) (hok v (by simp)) hd
      exact ⟨undef,w',.inr ⟨by simp [execOp,h1],rfl⟩,G,Loc.le_refl G,VR.undef G,h2⟩
    · rename_i hu
      simp at hr; subst hr
      obtain ⟨w',h1,rfl,h2⟩ := snd_mup ha hs hm hu (kk := 1) (.inl rfl) (hok x (by simp)) (hok k (by simp)) (hok v (by simp)) hd
      exact ⟨undef,w',.inr ⟨by simp [execOp,h1],rfl⟩,G,Loc.le_refl G,VR.undef G,h2⟩
    · rename_i ke hu
      split at hr
      case isFalse => cases hr
      rename_i hke
      simp at hr; subst hr
      obtain ⟨w',h1,rfl,h2⟩ := snd_mup ha hs hm hu (kk := 2) (.inr ⟨rfl,ke,rfl,hke⟩) (hok x (by simp)) (hok k (by simp)) (hok v (by simp)) hd
      exact ⟨undef,w',.inr ⟨by simp [execOp,h1],rfl⟩,G,Loc.le_refl G,VR.undef G,h2⟩
    · cases hr
  case insert t x k v =>
    split at hr
    case h_2 => cases hr
    rename_i kt e hm
    split at hr
    · rename_i ik hu
      simp at hr; subst hr
      obtain ⟨w',h1,rfl,h2⟩ := snd_mup ha hs hm hu (kk := 0) (.inl ⟨rfl,ik,rfl⟩) (hok x (by simp)) (hok k (by simp)) (hok v (by simp)) hd
      exact ⟨undef,w',.inr ⟨by simp [execOp,h1],rfl⟩,G,Loc.le_refl G,VR.undef G,h2⟩
    · rename_i hu
      simp at hr; subst hr
      obtain ⟨w',h1,rfl,h2⟩ := snd_mup ha hs hm hu (kk := 1) (.inl rfl) (hok x (by simp)) (hok k (by simp)) (hok v (by simp)) hd
      exact ⟨undef,w',.inr ⟨by simp [execOp,h1],rfl⟩,G,Loc.le_refl G,VR.undef G,h2⟩
    · rename_i ke hu
      split at hr
      case isFalse => cases hr
      rename_i hke
      simp at hr; subst hr
      obtain ⟨w',h1,rfl,h2⟩ := snd_mup ha hs hm hu (kk := 2) (.inr ⟨rfl,ke,rfl,hke⟩) (hok x (by simp)) (hok k (by simp)) (hok v (by simp)) hd
      exact ⟨undef,w',.inr ⟨by simp [execOp,h1],rfl⟩,G,Loc.le_refl G,VR.undef G,h2⟩
    · cases hr
  case range t x =>
    split at hr
    case h_2 => cases hr
    rename_i kt e hm
    simp at hr; subst hr
    obtain ⟨v',w',h1,h2⟩ := snd_rgm ha hs hm (hok x (by simp)) hd
    exact ⟨v',w',.inl (by simp [execOp,h1]),h2⟩
  case convert s t x =>
    split at hr
    case isFalse => cases hr
    rename_i hst
    subst hst
    split at hr
    case h_2 => cases hr
    rename_i e ht
    split at hr
    case h_2 => cases hr
    rename_i he
    simp at hr; subst hr
    obtain ⟨v',w',h1,h2⟩ := snd_cvm ha hs ht he (hok x (by simp)) hd
    exact ⟨v',w',.inl (by simp [execOp,h1]),h2⟩
  case call c =>
    obtain ⟨cal,args,argT⟩ := c
    cases cal with
    | value f => simp at hr
    | invoke r mm => simp at hr
    | builtin b =>
      simp only [Call.operands] at hok
      cases b <;> simp only [] at hr <;> first | (cases hr; done) | skip
      case unsafeString =>
        split at hr
        case h_2 => cases hr
        rename_i p n t t2 hargs hty
        split at hr
        case h_2 => cases hr
        rename_i e hu
        split at hr
        case isFalse => cases hr
        rename_i hc
        obtain rfl : args = #[p,n] := by apply Array.ext'; simpa using hargs
        obtain rfl : argT = #[t,t2] := by apply Array.ext'; simpa using hty
        simp at hr; subst hr
        obtain ⟨v',w',h1,h2⟩ := snd_ust (it := t2) (ty := ty) ha hs hu hc (hok p (by simp)) (hok n (by simp)) hd
        refine ⟨v',w',.inl ?_,h2⟩
        simp only [execOp,resolve,Sem.run_bind,Sem.run_pure,Result.andThen_ok,invoke,builtin,List.map_toArray,List.map_cons,List.map_nil]
        rw [h1]
        rfl
def resE (P : Program) (N : Nat) (o : Oper) : Option EO := match resE1 P N o with
  | some r => some r
  | none => resE2 P N o
theorem resE_snd {N : Nat} {ts : Fr} {a : Act} {o : Oper} {r : EO} {v : Value} {m' : Mem} (hr : resE P N o = some r) (ha : AR G N ts a) (hs : St P w0 G m w) (hd : dE ts m r = some (v,m')) :
    ∃ v' w',OkOp P a o w v' w' ∧ Leaves P w0 w G v m' v' w' := by
  unfold resE at hr
  split at hr
  · rename_i r' h
    simp at hr; subst hr
    exact resE1_snd h ha hs hd
  · exact resE2_snd hr ha hs hd
end
end Go.Proofs.YtccjlggpiliilaaGreatDoor.Ab

set_option linter.unusedVariables false
set_option linter.unusedSimpArgs false
namespace Go.Proofs.YtccjlggpiliilaaGreatDoor.Ab
open Go Go.RowKit
def callOk (P : Program) (f : FuncId) : Bool := match P.funcs[f]? with
  | some fn => !(fn.name == "runtime.NumGoroutine") && fn.body.isSome
  | none => false
def Yl (P : Program) (S : Value → World → Prop) : Result Next → Prop
  | .ok (.value v) w' => S v w'
  | .ok .skip w' => S undef w'
  | .ok (.enter f args) w' => Calls P f args w' fun e w'' => ∃ v,e = .returned v ∧ S v w''
  | _ => False
theorem Yl.mono {P : Program} {S S' : Value → World → Prop} {r : Result Next} (h : Yl P S r) (hs : ∀ v w,S v w → S' v w) : Yl P S' r := by
  unfold Yl at h ⊢
  split at h
  · exact hs _ _ h
  · exact hs _ _ h
  · exact Calls.mono h fun e w'' ⟨v,hv,hq⟩ => ⟨v,hv,hs _ _ hq⟩
  · exact h.elim
def AbC (P : Program) (w0 : World) (f : FuncId) (args : List Value) (m : Mem) (Q : Value → Mem → Prop) : Prop :=
  ∀ (G : Loc) (w : World) (args' : List Value),St P w0 G m w → VRs G args args' →
    Yl P (fun v' w' => ∃ G' v m',Loc.le G G' ∧ VR G' v v' ∧ St P w0 G' m' w' ∧ Q v m') ((callFunc f args'.toArray).run P w)
theorem AbC.mono {P : Program} {w0 : World} {f : FuncId} {args : List Value} {m : Mem} {Q Q' : Value → Mem → Prop} (h : AbC P w0 f args m Q) (hq : ∀ v m',Q v m' → Q' v m') : AbC P w0 f args m Q' :=
  fun G w args' hs ha => (h G w args' hs ha).mono fun v' w' ⟨G',v,m',h2,h3,h4,h5⟩ => ⟨G',v,m',h2,h3,h4,hq _ _ h5⟩
inductive CO where
  | fn (f : FuncId) (args : List Operand)
  | val (x : Operand) (args : List Operand)
  | inv (x : Operand) (name : String) (args : List Operand)
def methOf (P : Program) (t : TypeId) (name : String) : Option FuncId := match P.info? t,P.underlying t with
  | some i,some d => match i.methods.find? (·.name == name) with
    | some m => if m.path.isEmpty then
        match m.func,d with
        | some (f,true),.pointer _ => some f
        | some (_,false),.pointer _ => none
        | some (f,false),_ => some f
        | _,_ => none
      else none
    | none => none
  | _,_ => none
def dC (P : Program) (ts : Fr) : CO → Option (FuncId × List Value)
  | .fn f args => some (f,args.map (ev ts))
  | .val x args => match ev ts x with
    | .func (.func f) first captured => some (f,first.toList ++ args.map (ev ts) ++ captured.toList)
    | _ => none
  | .inv x name args => match ev ts x with
    | .iface t v => match methOf P t name with
      | some f => some (f,v :: args.map (ev ts))
      | none => none
    | _ => none
def resC (P : Program) (N : Nat) (o : Oper) : Option CO :=
  if o.op.operands.all (okX P N) then
    match o.op with
    | .call { callee := .value (.func f),args,.. } => some (.fn f args.toList)
    | .call { callee := .value x,args,.. } => some (.val x args.toList)
    | .call { callee := .invoke x name,args,.. } => some (.inv x name args.toList)
    | _ => none
  else none
inductive RK where
  | r (o : RO)
  | a (x : Operand)
  | e (o : EO)
  | c (o : CO)
  | nx (x : Operand)
  | bad
def resK (P : Program) (N : Nat) (o : Oper) : Option RK := match o.op with
  | .assign x => if okX P N x then some (.a x) else none
  | _ => match resR P N o with
    | some r => some (.r r)
    | none => match resE P N o with
      | some r => some (.e r)
      | none => match resC P N o with
        | some r => some (.c r)
        | none => match o.op with
          | .next x false => if okX P N x then some (.nx x) else some .bad
          | _ => some .bad
def nxK (v : Value) (m : Mem) (R : Value → Mem → Prop) : Prop := match v with
  | .pointer (some ⟨r,0,none⟩) => match m.get r with
    | .miter none _ _ _ => R (.tuple ⟨[.bool false]⟩) m
    | .miter (some q) since seen last => match m.get q with
      | .map es clock => ((∀ e ∈ es,e.born < since) ∧ since ≤ last) ∧ (∀ e ∈ es,e.born ∉ seen → R (.tuple ⟨[.bool true,e.key,e.val]⟩) (m.set r (.miter (some q) since (seen ++ [e.born]) clock))) ∧ ((∀ e ∈ es,e.born ∈ seen) → R (.tuple ⟨[.bool false]⟩) m)
      | _ => False
    | _ => False
  | _ => False
theorem nxK.mono {v : Value} {m : Mem} {R R' : Value → Mem → Prop} (h : nxK v m R) (hr : ∀ v m',R v m' → R' v m') : nxK v m R' := by
  unfold nxK at h ⊢
  split at h
  · split at h
    · exact hr _ _ h
    · split at h
      · exact ⟨h.1,fun e he hn => hr _ _ (h.2.1 e he hn),fun ha => hr _ _ (h.2.2 ha)⟩
      · exact h
    · exact h
  · exact h
def SK (P : Program) (w0 : World) (k : RK) (ts : Fr) (m : Mem) (R : Value → Mem → Prop) : Prop := match k with
  | .r o => match dR ts m o with
    | some v => R v m
    | none => False
  | .a x => R (ev ts x) m
  | .e o => match dE ts m o with
    | some (v,m') => R v m'
    | none => False
  | .c o => match dC P ts o with
    | some (f,args) => AbC P w0 f args m R
    | none => False
  | .nx x => nxK (ev ts x) m R
  | .bad => False
theorem SK.mono {P : Program} {w0 : World} {k : RK} {ts : Fr} {m : Mem} {R R' : Value → Mem → Prop} (h : SK P w0 k ts m R) (hr : ∀ v m',R v m' → R' v m') : SK P w0 k ts m R' := by
  unfold SK at h ⊢
  split at h
  · split at h
    · exact hr _ _ h
    · exact h
  · exact hr _ _ h
  · split at h
    · exact hr _ _ h
    · exact h
  · split at h
    · exact h.mono hr
    · exact h
  · exact h.mono hr
  · exact h
section
variable {P : Program} {w0 w : World} {G : Loc} {m : Mem}
theorem St.drew (h : St P w0 G m w) : St P w0 G m w.drew := h.same rfl rfl rfl rfl
theorem nx_yl {N : Nat} {ts : Fr} {a : Act} (ha : AR G N ts a) (hs : St P w0 G m w) {x : Operand} (hx : okX P N x = true) {ty : TypeId} {R : Value → Mem → Prop} (h : nxK (ev ts x) m R) :
    ∃ v' w',(Instr.next (a.eval x) false ty).run P w = .ok v' w' ∧ ∃ G' v m',Loc.le G G' ∧ VR G' v v' ∧ St P w0 G' m' w' ∧ R v m' := by
  have vx := ev_VR ha hs x hx
  generalize a.eval x = X at *
  unfold nxK at h
  split at h
  case h_2 => exact h.elim
  rename_i r hq
  rw [hq] at vx
  cases vx with
  | ptr _ _ B b S hg =>
  split at h
  · rename_i since seen last hr
    obtain ⟨B',b',S',g',rr⟩ := hs.ent r (by rw [hr]; simp)
    rw [hg] at g'; cases g'
    rw [hr] at rr
    obtain ⟨-,rfl,r',hw,hv⟩ := rr
    cases hv
    have hgo : (getObj B).run P w = .ok (.mapIter none since seen.toArray last) w := by simp [getObj,Sem.run,hw]
    exact ⟨.tuple #[.bool false],w,by simp [Instr.next,hgo],G,_,_,Loc.le_refl G,.tuple _ _ (.cons _ _ _ _ (.bool _) .nil),hs,h⟩
  · rename_i q since seen last hr
    split at h
    case h_2 => exact h.elim
    rename_i es cl hm
    obtain ⟨⟨h1,h2⟩,h3,h4⟩ := h
    obtain ⟨B',b',S',g',rr⟩ := hs.ent r (by rw [hr]; simp)
    rw [hg] at g'; cases g'
    rw [hr] at rr
    obtain ⟨hBB,rfl,r',hw,hv⟩ := rr
    cases hv with
    | map _ Bm Sm hgm =>
    obtain ⟨es',e1,e2,e3,e4⟩ := map_get hs hm hgm
    have hb : ∀ x ∈ es'.toArray.toList,x.born < since := by
      intro x hx
      have : x.born ∈ es'.map (·.born) := List.mem_map.2 ⟨x,by simpa using hx,rfl⟩
      rw [e2] at this
      obtain ⟨y,hy,hyb⟩ := List.mem_map.1 this
      have := h1 y hy
      omega
    have hlt : B < w.heap.size := by
      rcases Nat.lt_or_ge B w.heap.size with h' | h'
      · exact h'
      · rw [Array.getElem?_eq_none h'] at hw; cases hw
    simp only [Nat.zero_add]
    rcases run_next_at (P := P) w ty B Bm since last seen.toArray es'.toArray cl hw e1 hb h2 with ⟨h0,hrun⟩ | ⟨e,he,w1,hal,hrun⟩
    · refine ⟨_,w,hrun,G,_,_,Loc.le_refl G,.tuple _ _ (.cons _ _ _ _ (.bool _) .nil),hs,h4 fun x hx => ?_⟩
      have hbm : x.born ∈ es'.map (·.born) := by rw [e2]; exact List.mem_map.2 ⟨x,hx,rfl⟩
      obtain ⟨y,hy,hyb⟩ := List.mem_map.1 hbm
      rcases Classical.em (x.born ∈ seen) with h' | h'
      · exact h'
      · exfalso
        have : y ∈ leftOf es'.toArray seen.toArray := by
          unfold leftOf
          rw [Array.mem_filter]
          refine ⟨by simpa using hy,?_⟩
          simp [hyb,h']
        have : (leftOf es'.toArray seen.toArray) ≠ #[] := fun h9 => by rw [h9] at this; simp at this
        exact this (Array.eq_empty_of_size_eq_zero h0)
    · unfold leftOf at he
      simp only [Array.mem_toList_iff,Array.mem_filter] at he
      obtain ⟨he1,he2⟩ := he
      have he1 : e ∈ es' := by simpa using he1
      obtain ⟨j,hj,hje⟩ := List.mem_iff_getElem.1 he1
      have hjl : j < es.length := by
        have := congrArg List.length e2
        simp at this
        omega
      have hborn : es[j].born = e.born := by
        have := congrArg (fun l => l[j]?) e2
        simp [List.getElem?_map,List.getElem?_eq_getElem hj,List.getElem?_eq_getElem hjl,hje] at this
        exact this.symm
      have hk : VR G es[j].key e.key := by
        obtain ⟨v',f1,f2⟩ := e3.get j es[j].key (by simp [List.getElem?_eq_getElem hjl])
        simp [List.getElem?_eq_getElem hj,hje] at f1
        rw [f1]; exact f2
      have hvv : VR G es[j].val e.val := by
        obtain ⟨v',f1,f2⟩ := e4.get j es[j].val (by simp [List.getElem?_eq_getElem hjl])
        simp [List.getElem?_eq_getElem hj,hje] at f1
        rw [f1]; exact f2
      have hn : es[j].born ∉ seen := by
        rw [hborn]
        simpa using he2
      have hs1 : St P w0 G m w1 := by
        rcases hal with rfl | rfl
        · exact hs
        · exact hs.drew
      have hw1 : w1.heap[B]? = some (.mapIter (some Bm) since seen.toArray last) ∧ B < w1.heap.size := by
        rcases hal with rfl | rfl
        · exact ⟨hw,hlt⟩
        · exact ⟨hw,hlt⟩
      refine ⟨_,_,hrun,G,_,_,Loc.le_refl G,.tuple _ _ (.cons _ _ _ _ (.bool _) (.cons _ _ _ _ hk (.cons _ _ _ _ hvv .nil))),?_,h3 es[j] (List.getElem_mem hjl) hn⟩
      refine hs1.write (e := .miter (some q) since (seen ++ [es[j].born]) cl) (by rw [hr]; rfl) hg rfl rfl rfl ?_ (fun k hk => ?_) ⟨hBB,rfl,some Bm,?_,.map _ _ _ hgm⟩ (fun _ _ he => by cases he)
      · simp [ChangeMaps.setBlock]
      · show (w1.heap.setIfInBounds B _)[k]? = _
        rw [Array.getElem?_setIfInBounds,if_neg (fun h9 => hk h9.symm)]
      · simp [ChangeMaps.setBlock,Array.getElem?_setIfInBounds,hw1.2,hborn]
  · exact h.elim
theorem VRs.evs {N : Nat} {ts : Fr} {a : Act} (ha : AR G N ts a) (hs : St P w0 G m w) : ∀ (l : List Operand),(∀ x ∈ l,okX P N x = true) → VRs G (l.map (ev ts)) (l.map a.eval)
  | [],_ => .nil
  | x :: l,h => .cons _ _ _ _ (ev_VR ha hs x (h x (by simp))) (VRs.evs ha hs l fun y hy => h y (by simp [hy]))
theorem run_callFunc_enter {f : FuncId} (h : callOk P f = true) (args : Array Value) (w : World) : (callFunc f args).run P w = .ok (.enter f args) w := by
  unfold callOk at h
  cases hf : P.funcs[f]? with
  | none => simp [hf] at h
  | some fn =>
    simp only [hf,Bool.and_eq_true,Bool.not_eq_true'] at h
    obtain ⟨h1,h2⟩ := h
    obtain ⟨b,hb⟩ := Option.isSome_iff_exists.1 h2
    have h1' : ¬ (fn.name = "runtime.NumGoroutine") := by
      intro e; rw [e] at h1; simp at h1
    simp [callFunc,hf,h1',hb]
theorem run_method {t : TypeId} {name : String} {f : FuncId} (h : methOf P t name = some f) (v : Value) (w : World) : (method (P.types.size + Made.depth) t v name).run P w = .ok (f,v) w := by
  unfold methOf at h
  split at h
  case h_2 => cases h
  rename_i i d hi hu
  split at h
  case h_2 => cases h
  rename_i mm hm
  split at h
  case isFalse => cases h
  rename_i hp
  have hp' : mm.path.toList = [] := by
    have : mm.path = #[] := by simpa using hp
    rw [this]
  obtain ⟨k,hk⟩ : ∃ k,P.types.size + Made.depth = k + 1 := ⟨P.types.size + Made.depth - 1,by
    have : 0 < Made.depth := by decide
    omega⟩
  rw [hk]
  split at h
  · rename_i f' e hf
    simp at h; subst h
    simp [method,typeInfo,hi,hm,hp',follow,hf,receiverAt,run_underlying hu,Place.get]
  · cases h
  · rename_i f' hf hnd
    simp at h; subst h
    simp only [method,Sem.run_bind,typeInfo,run_program,Result.andThen_ok,hi,Sem.run_pure,hm,hp',follow,hf,receiverAt,run_underlying hu]
    simp [Place.get]
  · cases h
theorem resC_snd {N : Nat} {ts : Fr} {a : Act} {o : Oper} {r : CO} {f : FuncId} {args : List Value} (hr' : resC P N o = some r) (ha : AR G N ts a) (hs : St P w0 G m w) (hd : dC P ts r = some (f,args)) :
    ∃ args' : List Value,(execOp a.eval o).run P w = (callFunc f args'.toArray).run P w ∧ VRs G args args' := by
  obtain ⟨dst,op,ty,pos,after,guard⟩ := o
  unfold resC at hr'
  split at hr'
  case isFalse => cases hr'
  rename_i hok0
  have hok := okX_of hok0
  clear hok0
  cases op <;> simp only [] at hr' <;> try (cases hr'; done)
  case call c =>
  obtain ⟨cal,xs,tys⟩ := c
  simp only [Op.operands,Call.operands] at hok
  cases cal with
  | builtin b => simp at hr'
  | value x =>
    have hxs : ∀ y ∈ xs.toList,okX P N y = true := fun y hy => hok y (by simp; exact .inr (by simpa using hy))
    have hx0 : okX P N x = true := hok x (by simp)
    have hval : ∀ g args',dC P ts (.val x xs.toList) = some (g,args') → ∃ args'' : List Value,(execOp a.eval ⟨dst,.call ⟨.value x,xs,tys⟩,ty,pos,after,guard⟩).run P w = (callFunc g args''.toArray).run P w ∧ VRs G args' args'' := by
      intro g args' hd
      simp only [dC] at hd
      split at hd
      case h_2 => cases hd
      rename_i g' first cap hx
      simp at hd
      obtain ⟨rfl,rfl⟩ := hd
      have vx := ev_VR ha hs x hx0
      rw [hx] at vx
      generalize hz : a.eval x = z at vx
      cases vx with
      | func _ f1 c1 f2 c2 hf hc =>
        refine ⟨f2 ++ xs.toList.map a.eval ++ c2,?_,by
          have := (hf.append (VRs.evs ha hs xs.toList hxs)).append hc
          simpa using this⟩
        simp only [execOp,resolve,hz,Deferred.ofValue,Sem.run_bind,Sem.run_pure,Result.andThen_ok,invoke]
        congr 2
        apply Array.ext'; simp
    cases x with
    | func g =>
      simp at hr'; subst hr'
      simp [dC] at hd
      obtain ⟨rfl,rfl⟩ := hd
      refine ⟨xs.toList.map a.eval,?_,VRs.evs ha hs xs.toList hxs⟩
      simp only [execOp,resolve,Act.eval,Deferred.ofValue,Sem.run_bind,Sem.run_pure,Result.andThen_ok,invoke]
      congr 2
      apply Array.ext'; simp
    | tmp t => simp at hr'; subst hr'; exact hval _ _ hd
    | const c => simp at hr'; subst hr'; exact hval _ _ hd
    | global g => simp at hr'; subst hr'; exact hval _ _ hd
  | invoke x name =>
    have hxs : ∀ y ∈ xs.toList,okX P N y = true := fun y hy => hok y (by simp; exact .inr (by simpa using hy))
    have hx0 : okX P N x = true := hok x (by simp)
    simp at hr'; subst hr'
    simp only [dC] at hd
    split at hd
    case h_2 => cases hd
    rename_i t v hx
    split at hd
    case h_2 => cases hd
    rename_i g hg
    simp at hd
    obtain ⟨rfl,rfl⟩ := hd
    have vx := ev_VR ha hs x hx0
    rw [hx] at vx
    generalize hz : a.eval x = z at vx
    cases vx with
    | iface _ _ v' hv =>
      refine ⟨v' :: xs.toList.map a.eval,?_,.cons _ _ _ _ hv (VRs.evs ha hs xs.toList hxs)⟩
      have hm := run_method hg v' w
      simp only [execOp,resolve,hz,Sem.run_bind,Sem.run_pure,Result.andThen_ok,invoke]
      have e0 : (#[Value.iface t v'] ++ Array.map a.eval xs)[0]? = some (.iface t v') := by
        rw [Array.getElem?_append_left (by simp)]; rfl
      have e1 : (#[Value.iface t v'] ++ Array.map a.eval xs).extract 1 (#[Value.iface t v'] ++ Array.map a.eval xs).size = (xs.toList.map a.eval).toArray := by
        apply Array.ext'
        simp
        exact List.take_of_length_le (by simp)
      simp only [e0,e1,callMethod,Sem.run_bind,run_program,Result.andThen_ok,hm]
      congr 2
      all_goals (apply Array.ext'; simp)
theorem wp_of_Yl {o : Oper} {a : Act} {S : Value → World → Prop} {next : Act → World → Prop} {Q : Exit → Act → World → Prop} (h : Yl P S ((execOp a.eval o).run P w)) (hn : ∀ v w',S v w' → next (a.put o.dst v) w') : o.wp P a w next Q := by
  unfold Oper.wp
  generalize (execOp a.eval o).run P w = r at *
  unfold Yl at h
  split at h
  · exact hn _ _ h
  · exact hn _ _ h
  · refine Calls.mono h ?_
    rintro e w'' ⟨v,rfl,hs⟩
    exact hn _ _ hs
  · exact h.elim
theorem SK_yl {N : Nat} {ts : Fr} {a : Act} {o : Oper} {k : RK} {R : Value → Mem → Prop} (hr : resK P N o = some k) (ha : AR G N ts a) (hs : St P w0 G m w) (h : SK P w0 k ts m R) :
    Yl P (fun v' w' => ∃ G' v m',Loc.le G G' ∧ VR G' v v' ∧ St P w0 G' m' w' ∧ R v m') ((execOp a.eval o).run P w) := by
  have fin : ∀ v v' w' m',OkOp P a o w v' w' → Leaves P w0 w G v m' v' w' → R v m' → Yl P (fun v' w' => ∃ G' v m',Loc.le G G' ∧ VR G' v v' ∧ St P w0 G' m' w' ∧ R v m') ((execOp a.eval o).run P w) := by
    intro v v' w' m' h1 ⟨G',h2,h3,h4⟩ h5
    rcases h1 with h1 | ⟨h1,rfl⟩
    · rw [h1]; exact ⟨G',v,m',h2,h3,h4,h5⟩
    · rw [h1]; exact ⟨G',v,m',h2,h3,h4,h5⟩
  have fout : ∀ (f : FuncId) (args args' : List Value),(execOp a.eval o).run P w = (callFunc f args'.toArray).run P w → VRs G args args' → AbC P w0 f args m R → Yl P (fun v' w' => ∃ G' v m',Loc.le G G' ∧ VR G' v v' ∧ St P w0 G' m' w' ∧ R v m') ((execOp a.eval o).run P w) := by
    intro f args args' h1 h2 h3
    rw [h1]
    exact h3 G w args' hs h2
  obtain ⟨dst,op,ty,pos,after,guard⟩ := o
  unfold resK at hr
  split at hr
  · rename_i x he
    simp only [] at he
    subst he
    split at hr
    case isFalse => cases hr
    rename_i hx
    simp at hr; subst hr
    exact fin (ev ts x) (a.eval x) w m (.inl (by simp [execOp])) ⟨G,Loc.le_refl G,ev_VR ha hs x hx,hs⟩ h
  · split at hr
    · rename_i r hr'
      simp at hr; subst hr
      simp only [SK] at h
      split at h
      · rename_i v hd
        obtain ⟨v',h1,h2⟩ := resR_snd hr' ha hs hd
        exact fin v v' w m (.inl h1) ⟨G,Loc.le_refl G,h2,hs⟩ h
      · exact h.elim
    · split at hr
      · rename_i r hr'
        simp at hr; subst hr
        simp only [SK] at h
        split at h
        · rename_i v m' hd
          obtain ⟨v',w',h1,h2⟩ := resE_snd hr' ha hs hd
          exact fin v v' w' m' h1 h2 h
        · exact h.elim
      · split at hr
        case h_2 =>
          split at hr
          · rename_i x he
            simp only [] at he
            subst he
            split at hr
            case isFalse =>
              simp at hr; subst hr
              exact h.elim
            rename_i hx
            simp at hr; subst hr
            obtain ⟨v',w',h1,h2⟩ := nx_yl (ty := ty) ha hs hx h
            have : (execOp a.eval ⟨dst,.next x false,ty,pos,after,guard⟩).run P w = .ok (.value v') w' := by simp [execOp,h1]
            rw [this]
            exact h2
          · simp at hr; subst hr
            exact h.elim
        rename_i r hr'
        simp at hr; subst hr
        simp only [SK] at h
        split at h
        case h_2 => exact h.elim
        rename_i f args hd
        obtain ⟨args',h1,h2⟩ := resC_snd hr' ha hs hd
        exact fout f args args' h1 h2 h
end
end Go.Proofs.YtccjlggpiliilaaGreatDoor.Ab

set_option linter.unusedVariables false
set_option linter.unusedSimpArgs false
namespace Go.Proofs.YtccjlggpiliilaaGreatDoor.Ab
open Go Go.RowKit
structure Sp where
  d : Option Nat
  g : Option (Nat × Bool)
  k : RK
  stab : List (Nat × Option (Nat × Bool) × RO)
def wantD (g : Option (Nat × Bool)) (ts : Fr) : Bool := match g with
  | none => true
  | some (s,b) => match ts s with
    | .bool c => c == b
    | _ => false
def sbZ (ts : Fr) (m : Mem) : List (Nat × Option (Nat × Bool) × RO) → Prop
  | [] => True
  | (d,g,o) :: rest => (if wantD g ts = true then dR ts m o = some (ts d) else True) ∧ sbZ ts m rest
def contK (R : Fr → Mem → Prop) (d : Option Nat) (stab : List (Nat × Option (Nat × Bool) × RO)) (ts : Fr) (v : Value) (m' : Mem) : Prop := sbZ (updo ts d v) m' stab ∧ R (updo ts d v) m'
def RS (P : Program) (w0 : World) (Q : Fr → Mem → Prop) : List Sp → Fr → Mem → Prop
  | [],ts,m => Q ts m
  | s :: rest,ts,m => if wantD s.g ts = true then SK P w0 s.k ts m (contK (RS P w0 Q rest) s.d s.stab ts) else RS P w0 Q rest (updo ts s.d undef) m
theorem RS.mono {P : Program} {w0 : World} {Q Q' : Fr → Mem → Prop} (hq : ∀ ts m,Q ts m → Q' ts m) : ∀ (l : List Sp) (ts : Fr) (m : Mem),RS P w0 Q l ts m → RS P w0 Q' l ts m
  | [],ts,m,h => hq ts m h
  | s :: rest,ts,m,h => by
    unfold RS at h ⊢
    split
    · rename_i hw
      rw [if_pos hw] at h
      exact h.mono fun v m' hv => ⟨hv.1,RS.mono hq rest _ _ hv.2⟩
    · rename_i hw
      rw [if_neg hw] at h
      exact RS.mono hq rest _ _ h
def resG (ops : Array Oper) (N : Nat) (o : Oper) : Option (Option (Nat × Bool)) := match o.guard with
  | none => some none
  | some (j,b) => match (ops[j]?).bind (·.dst) with
    | some s => if s < N then some (some (s,b)) else none
    | none => none
def resS (P : Program) (N : Nat) (ops : Array Oper) (o : Oper) : Option Sp :=
  if o.dst.all (fun d => decide (d < N)) then
    match resG ops N o,resK P N o with
    | some g,some k => some { d := o.dst,g := g,k := k,stab := [] }
    | _,_ => none
  else none
section
variable {P : Program} {w0 w : World} {G : Loc} {m : Mem}
theorem wanted_eq {N : Nat} {ts : Fr} {a : Act} {ops : Array Oper} {o : Oper} {g : Option (Nat × Bool)} (ha : AR G N ts a) (hg : resG ops N o = some g) : Region.wanted o (yielded ops a.tmps) = wantD g ts := by
  unfold resG at hg
  unfold Region.wanted
  split at hg
  · rename_i hn
    simp at hg; subst hg
    simp [hn,wantD]
  · rename_i j b hn
    split at hg
    case h_2 => cases hg
    rename_i s hs
    split at hg
    case isFalse => cases hg
    rename_i hlt
    simp at hg; subst hg
    have hv := ha.slots s hlt
    have hsz : s < a.tmps.size := by rw [ha.size]; exact hlt
    simp only [hn,yielded,hs,Option.bind_some,wantD]
    have e1 : a.tmps.getD s undef = a.tmps[s] := by simp [Array.getD,hsz]
    rw [e1] at hv
    rw [Array.getElem?_eq_getElem hsz]
    generalize a.tmps[s] = x at hv
    generalize ts s = y at hv
    cases hv <;> simp
def Post (P : Program) (w0 : World) (G : Loc) (N : Nat) (Q : Exit → Fr → Mem → Prop) : Exit → Act → World → Prop :=
  fun e a' w' => ∃ G' ts' m',Loc.le G G' ∧ St P w0 G' m' w' ∧ AR G' N ts' a' ∧ Q e ts' m'
theorem Post.le {G G' : Loc} {N : Nat} {Q : Exit → Fr → Mem → Prop} {e : Exit} {a : Act} {w : World} (hg : Loc.le G G') (h : Post P w0 G' N Q e a w) : Post P w0 G N Q e a w :=
  let ⟨G2,ts,m,h1,h2⟩ := h
  ⟨G2,ts,m,Loc.le_trans hg h1,h2⟩
theorem wpList_RS {N : Nat} {ops : Array Oper} {Q : Fr → Mem → Prop} {Q' : Exit → Act → World → Prop} : ∀ (l : List Oper) (sp : List Sp) (G : Loc) (ts : Fr) (m : Mem) (a : Act) (w : World),l.mapM (resS P N ops) = some sp → St P w0 G m w → AR G N ts a → RS P w0 Q sp ts m →
    (∀ G' ts' m' a' w',Loc.le G G' → St P w0 G' m' w' → AR G' N ts' a' → Q ts' m' → Q' .normal a' w') → wpList P ops Q' l a w
  | [],sp,G,ts,m,a,w,hsp,hs,ha,h,hq => by
    simp at hsp; subst hsp
    exact hq G ts m a w (Loc.le_refl G) hs ha h
  | o :: l,sp,G,ts,m,a,w,hsp,hs,ha,h,hq => by
    simp only [List.mapM_cons,Option.bind_eq_bind,Option.pure_def] at hsp
    cases ho : resS P N ops o with
    | none => simp [ho] at hsp
    | some s =>
      cases hl : l.mapM (resS P N ops) with
      | none => simp [ho,hl] at hsp
      | some sl =>
        simp [ho,hl] at hsp
        subst hsp
        unfold resS at ho
        split at ho
        case isFalse => cases ho
        rename_i hd
        split at ho
        case h_2 => cases ho
        rename_i g k hg hk
        simp at ho; subst ho
        have hwant := wanted_eq ha hg
        unfold wpList
        unfold RS at h
        rw [hwant]
        split
        · rename_i hw
          simp only [hw,if_true] at h
          left
          refine wp_of_Yl (SK_yl hk ha hs h) ?_
          rintro v' w' ⟨G',v,m',h1,h2,h3,h4⟩
          exact wpList_RS l sl G' _ m' _ w' hl h3 ((ha.mono h1).put o.dst h2) h4.2 fun G2 ts2 m2 a2 w2 q1 => hq G2 ts2 m2 a2 w2 (Loc.le_trans h1 q1)
        · rename_i hw
          simp only [hw,if_false] at h
          exact wpList_RS l sl G _ m _ w hl hs (ha.put o.dst (VR.undef G)) h hq
end
end Go.Proofs.YtccjlggpiliilaaGreatDoor.Ab

set_option linter.unusedVariables false
set_option linter.unusedSimpArgs false
namespace Go.Proofs.YtccjlggpiliilaaGreatDoor.Ab
open Go Go.RowKit
def rdOps : RO → List Operand
  | .mv x | .ld x | .ldn _ x | .nck x | .not x | .neg x | .com x | .cvi _ x | .cvs x | .fa _ x | .fld _ _ x | .lens x | .lenl x | .mki _ x | .ext _ x | .b2s x | .cvp x | .cvu _ _ x | .usd x | .capn x | .i2s x | .tas _ _ _ x | .ent x => [x]
  | .pick c a b => [c,a,b]
  | .bin _ x y | .eq _ _ x y | .ia _ x y | .iaa _ _ x y | .ixs x y | .ixa _ _ _ x y | .mn x y | .mx x y | .lku _ _ _ x y | .ieq _ _ x y => [x,y]
  | .sls x lo hi | .sl _ x lo hi | .sla _ _ x lo hi => x :: (lo.toList ++ hi.toList)
  | .lenc _ => []
  | .mkf _ f c => f ++ c
  | .bld _ ps => ps.map (·.2.2)
def memFree : RO → Bool
  | .ld _ | .ldn _ _ | .sla _ _ _ _ _ | .b2s _ | .cvp _ | .cvu _ _ _ | .lku _ _ _ _ _ | .ent _ => false
  | _ => true
theorem dR_mem {ts : Fr} {m m' : Mem} {o : RO} (h : memFree o = true) : dR ts m o = dR ts m' o := by
  cases o <;> first | rfl | (simp [memFree] at h; done)
theorem fillD_congr {ts ts' : Fr} : ∀ (ps : List (Nat × Nat × Operand)) (cs : List Value),(∀ p ∈ ps,ev ts p.2.2 = ev ts' p.2.2) → fiZ ts ps cs = fiZ ts' ps cs
  | [],cs,_ => rfl
  | (off,n,x) :: ps,cs,h => by
    have hx : ev ts x = ev ts' x := h (off,n,x) (by simp)
    simp only [fiZ,hx]
    split
    · exact fillD_congr ps _ fun p hp => h p (by simp [hp])
    · rfl
theorem bnd_congr {ts ts' : Fr} {y : Option Operand} (h : ∀ x ∈ y.toList,ev ts x = ev ts' x) (d l : Nat) : bnd ts y d l = bnd ts' y d l := by
  cases y with
  | none => rfl
  | some x => simp only [bnd,h x (by simp)]
theorem slD_congr {ts ts' : Fr} {lo hi : Option Operand} (h1 : ∀ x ∈ lo.toList,ev ts x = ev ts' x) (h2 : ∀ x ∈ hi.toList,ev ts x = ev ts' x) (sz i o n : Nat) : slD sz ts lo hi i o n = slD sz ts' lo hi i o n := by
  simp only [slD,bnd_congr h1,bnd_congr h2]
theorem dR_congr {ts ts' : Fr} {m : Mem} {o : RO} (h : ∀ x ∈ rdOps o,ev ts x = ev ts' x) : dR ts m o = dR ts' m o := by
  cases o <;> simp only [rdOps] at h
  case sls x lo hi =>
    have h0 := h x (by simp)
    have h1 : ∀ y ∈ lo.toList,ev ts y = ev ts' y := fun y hy => h y (by simp only [List.mem_cons,List.mem_append]; exact .inr (.inl hy))
    have h2 : ∀ y ∈ hi.toList,ev ts y = ev ts' y := fun y hy => h y (by simp only [List.mem_cons,List.mem_append]; exact .inr (.inr hy))
    simp only [dR,h0,bnd_congr h1,bnd_congr h2]
  case sl sz x lo hi =>
    have h0 := h x (by simp)
    have h1 : ∀ y ∈ lo.toList,ev ts y = ev ts' y := fun y hy => h y (by simp only [List.mem_cons,List.mem_append]; exact .inr (.inl hy))
    have h2 : ∀ y ∈ hi.toList,ev ts y = ev ts' y := fun y hy => h y (by simp only [List.mem_cons,List.mem_append]; exact .inr (.inr hy))
    simp only [dR,h0,bnd_congr h1,bnd_congr h2,slD_congr h1 h2]
  case sla n sz x lo hi =>
    have h0 := h x (by simp)
    have h1 : ∀ y ∈ lo.toList,ev ts y = ev ts' y := fun y hy => h y (by simp only [List.mem_cons,List.mem_append]; exact .inr (.inl hy))
    have h2 : ∀ y ∈ hi.toList,ev ts y = ev ts' y := fun y hy => h y (by simp only [List.mem_cons,List.mem_append]; exact .inr (.inr hy))
    simp only [dR,h0,slD_congr h1 h2]
  case mkf fn f c =>
    have h1 : f.map (ev ts) = f.map (ev ts') := List.map_congr_left fun x hx => h x (by simp [hx])
    have h2 : c.map (ev ts) = c.map (ev ts') := List.map_congr_left fun x hx => h x (by simp [hx])
    simp only [dR,h1,h2]
  case bld z ps =>
    simp only [dR,fillD_congr ps z fun p hp => h p.2.2 (by simp; exact ⟨p.1,p.2.1,hp⟩)]
  case lenc n => rfl
  case pick c x y => simp only [dR,h c (by simp),h x (by simp),h y (by simp)]
  all_goals first
    | (rename_i x y; simp only [dR,h x (by simp),h y (by simp)]; done)
    | (rename_i x; simp only [dR,h x (by simp)]; done)
def isCh (s : Sp) : Bool := match s.k with
  | .r _ => false
  | _ => true
def isTmp (d : Nat) : Operand → Bool
  | .tmp t => t == d
  | _ => false
def seesD (d : Nat) (s : Sp) : Bool := (match s.g with | some (t,_) => t == d | none => false) || (match s.k with | .r o => (rdOps o).any (isTmp d) | _ => false)
inductive Anc (ops : Array Oper) : Nat → Nat → Prop
  | one (j : Nat) (o : Oper) (e : Edge) (h : ops[j]? = some o) (he : e ∈ o.after) (hb : Region.binds .any e = true) : Anc ops e.on j
  | step (i j : Nat) (o : Oper) (e : Edge) (h : ops[j]? = some o) (he : e ∈ o.after) (hb : Region.binds .any e = true) (k : Anc ops i e.on) : Anc ops i j
def stabOf (anc : Nat → Nat → Bool) (sp : Nat → Sp) (done : List Nat) (i : Nat) : List (Nat × Option (Nat × Bool) × RO) :=
  done.filterMap fun j => match (sp j).k,(sp j).d with
    | .r o,some d => if anc j i || memFree o then none else some (d,(sp j).g,o)
    | _,_ => none
def stepsOf (anc : Nat → Nat → Bool) (sp : Nat → Sp) : List Nat → List Nat → List Sp
  | _,[] => []
  | done,i :: rest => { sp i with stab := if isCh (sp i) then stabOf anc sp done i else [] } :: stepsOf anc sp (done ++ [i]) rest
structure SchOk (P : Program) (N : Nat) (ops : Array Oper) (anc : Nat → Nat → Bool) (sp : Nat → Sp) (sch : List Nat) : Prop where
  anc : ∀ i j,anc i j = true → Anc ops i j
  nodup : sch.Nodup
  mem : ∀ i,i ∈ sch ↔ i < ops.size
  res : ∀ i o,ops[i]? = some o → ∃ g k,resG ops N o = some g ∧ resK P N o = some k ∧ (sp i).d = o.dst ∧ (sp i).g = g ∧ (sp i).k = k ∧ (∀ d,o.dst = some d → d < N)
  ord : ∀ pre i post o e,sch = pre ++ i :: post → ops[i]? = some o → e ∈ o.after → Region.binds .any e = true → e.on ∈ pre
  chain : ∀ pre i post j,sch = pre ++ i :: post → isCh (sp i) = true → j ∈ post → Anc ops i j
  apart : ∀ i j oi oj,i ≠ j → ¬ Anc ops i j → ¬ Anc ops j i → ops[i]? = some oi → ops[j]? = some oj → oi.apart ops oj = true ∧ ∀ d,oi.dst = some d → seesD d (sp j) = false
  fresh : ∀ i j oi oj d,isCh (sp i) = false → i ≠ j → ops[i]? = some oi → ops[j]? = some oj → oi.dst = some d → oj.dst ≠ some d ∧ (d ∈ oj.looksAt ops → Anc ops i j) ∧ (seesD d (sp j) = true → Anc ops i j)
  reads : ∀ i,i < ops.size → isCh (sp i) = false → (sp i).d ≠ none
  self : ∀ i d,isCh (sp i) = false → (sp i).d = some d → seesD d (sp i) = false
  self2 : ∀ i o d,isCh (sp i) = false → ops[i]? = some o → o.dst = some d → d ∉ o.looksAt ops
  nosel : ∀ (j : Nat) (o : Oper) cs b,ops[j]? = some o → o.op ≠ .select cs b
theorem anc_before {P : Program} {N : Nat} {ops : Array Oper} {sp : Nat → Sp} {sch : List Nat} {anc : Nat → Nat → Bool} (hk : SchOk P N ops anc sp sch) {i j : Nat} (h : Anc ops i j) : ∀ pre post,sch = pre ++ j :: post → i ∈ pre := by
  induction h with
  | one j o e h he hb => exact fun pre post hs => hk.ord pre j post o e hs h he hb
  | step i j o e h he hb k ih =>
    intro pre post hs
    have h1 := hk.ord pre j post o e hs h he hb
    obtain ⟨p1,p2,hp⟩ := List.append_of_mem h1
    have := ih p1 (p2 ++ j :: post) (by rw [hs,hp]; simp)
    rw [hp]
    simp [this]
def Lst (l : Array Bool) (i : Nat) : Prop := l.getD i false = true
def DownC (ops : Array Oper) (l : Array Bool) : Prop := ∀ j o e,Lst l j → ops[j]? = some o → e ∈ o.after → Region.binds .any e = true → Lst l e.on
theorem anc_listed {ops : Array Oper} {l : Array Bool} (hd : DownC ops l) {i j : Nat} (h : Anc ops i j) : (∀ o e,ops[j]? = some o → e ∈ o.after → Region.binds .any e = true → Lst l e.on) → Lst l i := by
  induction h with
  | one j o e h he hb => exact fun hj => hj o e h he hb
  | step i j o e h he hb k ih => exact fun hj => ih fun o' e' h' he' hb' => hd _ _ _ (hj o e h he hb) h' he' hb'
def Stable (s : Sp) (ts : Fr) (m : Mem) : Prop := ∀ d,s.d = some d → match s.k with
  | .r o => (wantD s.g ts = true → dR ts m o = some (ts d)) ∧ (wantD s.g ts = false → ts d = undef)
  | _ => False
end Go.Proofs.YtccjlggpiliilaaGreatDoor.Ab

set_option linter.unusedVariables false
set_option linter.unusedSimpArgs false
namespace Go.Proofs.YtccjlggpiliilaaGreatDoor.Ab
open Go Go.RowKit
theorem resK_r {P : Program} {N : Nat} {o : Oper} {r : RO} (h : resK P N o = some (.r r)) : resR P N o = some r := by
  unfold resK at h
  split at h
  · split at h <;> simp at h
  · split at h
    · rename_i r' hr
      simp at h; subst h; exact hr
    · split at h
      · simp at h
      · split at h
        · simp at h
        · split at h
          · split at h <;> simp at h
          · simp at h
theorem ev_upd {ts : Fr} {d : Nat} {v : Value} {x : Operand} (h : isTmp d x = false) : ev (upd ts d v) x = ev ts x := by
  cases x with
  | tmp t => simp [isTmp] at h; simp [ev,upd,h]
  | _ => rfl
theorem wantD_upd {ts : Fr} {d : Nat} {v : Value} {s : Sp} (h : seesD d s = false) : wantD s.g (upd ts d v) = wantD s.g ts := by
  simp only [seesD,Bool.or_eq_false_iff] at h
  have h1 := h.1
  unfold wantD
  cases hg : s.g with
  | none => rfl
  | some p =>
    obtain ⟨t,b⟩ := p
    simp only [hg,beq_eq_false_iff_ne] at h1
    simp only [upd,h1,if_false]
theorem dR_upd {ts : Fr} {d : Nat} {v : Value} {m : Mem} {s : Sp} {o : RO} (hk : s.k = .r o) (h : seesD d s = false) : dR (upd ts d v) m o = dR ts m o := by
  simp only [seesD,Bool.or_eq_false_iff,hk] at h
  refine dR_congr fun x hx => ev_upd ?_
  have := h.2
  rw [List.any_eq_false] at this
  simpa using this x hx
section
variable {P : Program} {w0 : World} {N : Nat} {ops : Array Oper} {sp : Nat → Sp} {sch : List Nat} {anc : Nat → Nat → Bool} {G : Loc} {Q : Fr → Mem → Prop}
theorem full_frame {G' : Loc} {ts : Fr} {a : Act} {cond : Nat → Prop} (h : ∀ t,t < N → ∃ v',VR G' (ts t) v' ∧ (cond t → v' = a.tmps.getD t undef)) (hsz : a.tmps.size = N) :
    ∃ b : Act,AR G' N ts b ∧ ∀ t,(t < N → cond t) → b.tmps[t]? = a.tmps[t]? := by
  classical
  let f : Nat → Value := fun t => if ht : t < N then Classical.choose (h t ht) else undef
  have hf : ∀ t (ht : t < N),VR G' (ts t) (f t) ∧ (cond t → f t = a.tmps.getD t undef) := by
    intro t ht
    have := Classical.choose_spec (h t ht)
    simpa [f,ht] using this
  refine ⟨{ tmps := Array.ofFn (n := N) fun i => f i,defers := [] },⟨by simp,fun t ht => ?_,rfl⟩,fun t hc => ?_⟩
  · have := (hf t ht).1
    simpa [Array.getD,ht] using this
  · by_cases ht : t < N
    · have h1 := (hf t ht).2 (hc ht)
      have ht' : t < a.tmps.size := by omega
      rw [Array.getElem?_eq_getElem (by simpa using ht),Array.getElem?_eq_getElem ht']
      simp only [Array.getElem_ofFn]
      rw [h1]
      simp [Array.getD,ht']
    · rw [Array.getElem?_eq_none (by simp; omega),Array.getElem?_eq_none (by omega)]
theorem eval_agree {a b : Act} {x : Operand} (h : ∀ t,x = .tmp t → b.tmps[t]? = a.tmps[t]?) : b.eval x = a.eval x := by
  cases x with
  | tmp t =>
    have := h t rfl
    simp only [Act.eval,Array.getD_eq_getD_getElem?,this]
  | _ => rfl
theorem exec_agree {a b : Act} {o : Oper} (hs : ∀ cs q,o.op ≠ .select cs q) (h : ∀ t ∈ o.looksAt ops,b.tmps[t]? = a.tmps[t]?) : execOp b.eval o = execOp a.eval o :=
  execOp_congr o hs fun x hx => eval_agree fun t ht => h t (by
    subst ht
    exact List.mem_append_left _ (List.mem_filterMap.2 ⟨.tmp t,by simpa using hx,rfl⟩))
theorem wanted_agree {a b : Act} {o : Oper} (h : ∀ t ∈ o.looksAt ops,b.tmps[t]? = a.tmps[t]?) : Region.wanted o (yielded ops b.tmps) = Region.wanted o (yielded ops a.tmps) := by
  unfold Region.wanted
  cases hg : o.guard with
  | none => rfl
  | some p =>
    obtain ⟨j,q⟩ := p
    have : yielded ops b.tmps j = yielded ops a.tmps j := by
      unfold yielded
      cases ht : (ops[j]?).bind (·.dst) with
      | none => rfl
      | some t =>
        have := h t (by simp [Oper.looksAt,hg,ht])
        simp only [Option.bind_some,this]
    simp only [this]
def Inv (P : Program) (w0 : World) (N : Nat) (ops : Array Oper) (anc : Nat → Nat → Bool) (sp : Nat → Sp) (sch : List Nat) (G : Loc) (Q : Fr → Mem → Prop) (l : Array Bool) (a : Act) (w : World) (normal : Bool) : Prop :=
  ∃ G' ts m pre rest,sch = pre ++ rest ∧ Loc.le G G' ∧ St P w0 G' m w ∧ a.tmps.size = N ∧ a.defers = [] ∧
    (∀ t,t < N → ∃ v',VR G' (ts t) v' ∧ ((∀ i ∈ pre,¬ Lst l i → (sp i).d ≠ some t) → v' = a.tmps.getD t undef)) ∧
    (∀ i,Lst l i → i ∈ pre) ∧ (∀ i ∈ pre,¬ Lst l i → isCh (sp i) = false ∧ Stable (sp i) ts m) ∧ DownC ops l ∧ l.size = ops.size ∧
    (normal = true → ∀ i r,rest = i :: r → isCh (sp i) = true) ∧ RS P w0 Q (stepsOf anc sp pre rest) ts m
theorem inv_normal (hk : SchOk P N ops anc sp sch) {l : Array Bool} {a : Act} {w : World} (h : Inv P w0 N ops anc sp sch G Q l a w false) : Inv P w0 N ops anc sp sch G Q l a w true := by
  obtain ⟨G',ts,m,pre,rest,hsch,hle,hs,hsz,hdf,hre,hl,hp,hd,hls,-,hrs⟩ := h
  induction rest generalizing ts pre with
  | nil => exact ⟨G',ts,m,pre,[],hsch,hle,hs,hsz,hdf,hre,hl,hp,hd,hls,(fun _ i r e => by cases e),hrs⟩
  | cons i rest ih =>
    cases hch : isCh (sp i) with
    | true => exact ⟨G',ts,m,pre,i :: rest,hsch,hle,hs,hsz,hdf,hre,hl,hp,hd,hls,(fun _ j r e => by cases e; exact hch),hrs⟩
    | false =>
      have himem : i ∈ sch := by rw [hsch]; simp
      have hin : i < ops.size := (hk.mem i).1 himem
      have hnpre : i ∉ pre := by
        have := hk.nodup
        rw [hsch] at this
        intro hm
        exact (List.nodup_append.1 this).2.2 i hm i (by simp) rfl
      have hnl : ¬ Lst l i := fun h => hnpre (hl i h)
      obtain ⟨o,ho⟩ : ∃ o,ops[i]? = some o := ⟨ops[i],by simp [hin]⟩
      obtain ⟨g,k,hg,hkk,hd1,hg1,hk1,hdN⟩ := hk.res i o ho
      obtain ⟨d,hdd⟩ : ∃ d,(sp i).d = some d := Option.ne_none_iff_exists'.1 (hk.reads i hin hch)
      have hod : o.dst = some d := by rw [← hd1]; exact hdd
      have hr : ∃ r,k = .r r := by
        rw [← hk1]
        unfold isCh at hch
        split at hch
        · exact ⟨_,by assumption⟩
        · cases hch
      obtain ⟨r,rfl⟩ := hr
      have hself := hk.self i d hch hdd
      -- what is told in the slot
      have key : ∀ v,(∃ v',VR G' v v') → ((wantD (sp i).g ts = true → dR ts m r = some v) ∧ (wantD (sp i).g ts = false → v = undef)) → RS P w0 Q (stepsOf anc sp (pre ++ [i]) rest) (upd ts d v) m → Inv P w0 N ops anc sp sch G Q l a w true := by
        intro v hv hst hrs'
        refine ih (upd ts d v) (pre ++ [i]) (by rw [hsch]; simp) ?_ (fun j hj => by simp [hl j hj]) ?_ hrs'
        · intro t ht
          by_cases htd : t = d
          · subst htd
            obtain ⟨v',hv'⟩ := hv
            exact ⟨v',by simpa [upd] using hv',fun hc => (hc i (by simp) hnl hdd).elim⟩
          · obtain ⟨v',h1,h2⟩ := hre t ht
            exact ⟨v',by simpa [upd,htd] using h1,fun hc => h2 fun j hj hnj => hc j (by simp [hj]) hnj⟩
        · intro j hj hnj
          rcases List.mem_append.1 hj with hj | hj
          · obtain ⟨h1,h2⟩ := hp j hj hnj
            refine ⟨h1,?_⟩
            have hji : i ≠ j := by rintro rfl; exact hnpre hj
            have hjn : j < ops.size := (hk.mem j).1 (by rw [hsch]; simp [hj])
            obtain ⟨oj,hoj⟩ : ∃ o,ops[j]? = some o := ⟨ops[j],by simp [hjn]⟩
            obtain ⟨f1,f2,f3⟩ := hk.fresh i j o oj d hch hji ho hoj hod
            have hnanc : ¬ Anc ops i j := by
              intro ha
              obtain ⟨p1,p2,hpp⟩ := List.append_of_mem hj
              have := anc_before hk ha p1 (p2 ++ i :: rest) (by rw [hsch,hpp]; simp)
              exact hnpre (by rw [hpp]; simp [this])
            have hsee : seesD d (sp j) = false := by
              cases hq : seesD d (sp j) with
              | false => rfl
              | true => exact (hnanc (f3 hq)).elim
            have hdj : (sp j).d ≠ some d := by
              obtain ⟨_,_,_,_,e1,_⟩ := hk.res j oj hoj
              rw [e1]; exact f1
            intro dj hdj'
            have := h2 dj hdj'
            have hne : dj ≠ d := by rintro rfl; exact hdj hdj'
            cases hkj : (sp j).k with
            | r oj' =>
              simp only [hkj] at this ⊢
              rw [wantD_upd hsee,dR_upd hkj hsee]
              simpa [upd,hne] using this
            | a x => simp only [hkj] at this
            | e x => simp only [hkj] at this
            | c x => simp only [hkj] at this
            | nx x => simp only [hkj] at this
            | bad => simp only [hkj] at this
          · simp at hj
            subst hj
            refine ⟨hch,?_⟩
            intro d' hd'
            rw [hdd] at hd'
            cases hd'
            simp only [hk1]
            rw [wantD_upd hself,dR_upd hk1 hself]
            simpa [upd] using hst
      unfold stepsOf at hrs
      unfold RS at hrs
      simp only [hch,Bool.false_eq_true,if_false] at hrs
      cases hw : wantD (sp i).g ts with
      | true =>
        simp only [hw,if_true,hk1,SK] at hrs
        cases hdr : dR ts m r with
        | none => simp [hdr] at hrs
        | some v =>
          simp only [hdr,contK,sbZ,true_and,hdd,updo] at hrs
          refine key v ?_ ⟨fun _ => hdr,fun h => by rw [hw] at h; cases h⟩ hrs
          obtain ⟨b,hb,_⟩ := full_frame hre hsz
          obtain ⟨v',_,hv'⟩ := resR_snd (resK_r hkk) hb hs hdr
          exact ⟨v',hv'⟩
      | false =>
        simp only [hw,Bool.false_eq_true,if_false,hdd,updo] at hrs
        exact key undef ⟨undef,VR.undef _⟩ ⟨(fun h => by rw [hw] at h; cases h),fun _ => rfl⟩ hrs
end
end Go.Proofs.YtccjlggpiliilaaGreatDoor.Ab

set_option linter.unusedVariables false
set_option linter.unusedSimpArgs false
namespace Go.Proofs.YtccjlggpiliilaaGreatDoor.Ab
open Go Go.RowKit
section
variable {P : Program} {w0 : World} {N : Nat} {ops : Array Oper} {sp : Nat → Sp} {sch : List Nat} {anc : Nat → Nat → Bool} {G : Loc} {Q : Fr → Mem → Prop}
theorem ready_iff {l : Array Bool} (hls : l.size = ops.size) {j : Nat} : j ∈ Region.ready .any ops l ↔ ¬ Lst l j ∧ ∃ o,ops[j]? = some o ∧ ∀ e ∈ o.after,Region.binds .any e = true → Lst l e.on := by
  rw [mem_ready]
  unfold Lst
  constructor
  · rintro ⟨h1,o,ho,h2⟩
    have hj : j < ops.size := (Array.getElem?_eq_some_iff.1 ho).1
    have hjl : j < l.size := by omega
    refine ⟨?_,o,ho,h2⟩
    simp [Array.getD,hjl] at h1 ⊢
    exact h1
  · rintro ⟨h1,o,ho,h2⟩
    have hj : j < ops.size := (Array.getElem?_eq_some_iff.1 ho).1
    have hjl : j < l.size := by omega
    refine ⟨?_,o,ho,h2⟩
    simp [Array.getD,hjl] at h1 ⊢
    exact h1
theorem lst_set {l : Array Bool} {i j : Nat} (hi : i < l.size) : Lst (l.setIfInBounds i true) j ↔ j = i ∨ Lst l j := by
  unfold Lst
  by_cases h : i = j
  · subst h
    simp [Array.getD,hi]
  · rw [getD_set_ne false h]
    simp [Ne.symm h]
theorem all_listed (hk : SchOk P N ops anc sp sch) {l : Array Bool} (hls : l.size = ops.size) (hr : Region.ready .any ops l = []) : ∀ i ∈ sch,Lst l i := by
  have key : ∀ (pre post : List Nat),sch = pre ++ post → (∀ i ∈ pre,Lst l i) → ∀ i ∈ post,Lst l i := by
    intro pre post
    induction post generalizing pre with
    | nil => intro _ _ i hi; cases hi
    | cons j post ih =>
      intro hs hp i hi
      have hj : Lst l j := by
        by_cases hj : Lst l j
        · exact hj
        · exfalso
          have hjn : j < ops.size := (hk.mem j).1 (by rw [hs]; simp)
          have : j ∈ Region.ready .any ops l := (ready_iff hls).2 ⟨hj,ops[j],by simp [hjn],fun e he hb => hp _ (hk.ord pre j post ops[j] e hs (by simp [hjn]) he hb)⟩
          rw [hr] at this
          cases this
      rcases List.mem_cons.1 hi with rfl | hi
      · exact hj
      · exact ih (pre ++ [j]) (by rw [hs]; simp) (fun q hq => by
          rcases List.mem_append.1 hq with hq | hq
          · exact hp q hq
          · simp at hq; subst hq; exact hj) i hi
  exact key [] sch rfl (by simp)
theorem inv_done (hk : SchOk P N ops anc sp sch) {l : Array Bool} {a : Act} {w : World} (h : Inv P w0 N ops anc sp sch G Q l a w true) (hr : Region.ready .any ops l = []) :
    ∃ G' ts m,Loc.le G G' ∧ St P w0 G' m w ∧ AR G' N ts a ∧ Q ts m := by
  obtain ⟨G',ts,m,pre,rest,hsch,hle,hs,hsz,hdf,hre,hl,hp,hd,hls,hn,hrs⟩ := h
  have hall := all_listed hk hls hr
  have hrest : rest = [] := by
    cases rest with
    | nil => rfl
    | cons i rest =>
      exfalso
      have hi : i ∈ pre := hl i (hall i (by rw [hsch]; simp))
      have := hk.nodup
      rw [hsch] at this
      exact (List.nodup_append.1 this).2.2 i hi i (by simp) rfl
  subst hrest
  refine ⟨G',ts,m,hle,hs,⟨hsz,fun t ht => ?_,hdf⟩,hrs⟩
  obtain ⟨v',h1,h2⟩ := hre t ht
  rw [← h2 fun i hi hnl => (hnl (hall i (by rw [hsch]; simp [hi]))).elim]
  exact h1
def unl (n : Nat) (l : Array Bool) : Nat := ((List.range n).filter fun i => !l.getD i false).length
theorem unl_set {n : Nat} {l : Array Bool} {i : Nat} (hin : i < n) (hil : i < l.size) (hn : ¬ Lst l i) : unl n (l.setIfInBounds i true) < unl n l := by
  unfold unl
  have key : ∀ (xs : List Nat),((xs.filter fun j => !(l.setIfInBounds i true).getD j false).length ≤ (xs.filter fun j => !l.getD j false).length) ∧ (i ∈ xs → (xs.filter fun j => !(l.setIfInBounds i true).getD j false).length < (xs.filter fun j => !l.getD j false).length) := by
    intro xs
    induction xs with
    | nil => exact ⟨Nat.le_refl _,fun h => by cases h⟩
    | cons x xs ih =>
      by_cases hx : i = x
      · subst hx
        have e1 : (l.setIfInBounds i true).getD i false = true := (lst_set hil).2 (.inl rfl)
        have e2 : l.getD i false = false := by simpa [Lst] using hn
        rw [List.filter_cons_of_neg (by simp only [e1]; decide),List.filter_cons_of_pos (by simp only [e2]; decide)]
        simp only [List.length_cons]
        exact ⟨by omega,fun _ => by omega⟩
      · have e1 := getD_set_ne (listed := l) false hx
        simp only [List.filter_cons,e1]
        split
        · simp only [List.length_cons]
          exact ⟨by omega,fun h => by have := ih.2 (by rcases List.mem_cons.1 h with h | h; exact (hx h).elim; exact h); omega⟩
        · exact ⟨ih.1,fun h => ih.2 (by rcases List.mem_cons.1 h with h | h; exact (hx h).elim; exact h)⟩
  exact (key (List.range n)).2 (by simpa using hin)
theorem getD_put {a : Act} {d t : Nat} {v : Value} (h : t ≠ d) : (a.put (some d) v).tmps.getD t undef = a.tmps.getD t undef := by
  simp [Act.put,Array.getElem?_setIfInBounds_ne (Ne.symm h)]
theorem getD_put_same {a : Act} {d : Nat} {v : Value} (h : d < a.tmps.size) : (a.put (some d) v).tmps.getD d undef = v := by
  simp [Act.put,h]
theorem stabOk_mem {ts : Fr} {m : Mem} : ∀ {l : List (Nat × Option (Nat × Bool) × RO)},sbZ ts m l → ∀ (d : Nat) (g : Option (Nat × Bool)) (o : RO),(d,g,o) ∈ l → wantD g ts = true → dR ts m o = some (ts d)
  | [],_,d,g,o,h,_ => by cases h
  | (d',g',o') :: l,hst,d,g,o,h,hw => by
    rcases List.mem_cons.1 h with h | h
    · cases h
      have := hst.1
      rw [if_pos hw] at this
      exact this
    · exact stabOk_mem hst.2 d g o h hw
theorem down_set {l : Array Bool} {i : Nat} {o : Oper} (hil : i < l.size) (hd : DownC ops l) (ho : ops[i]? = some o) (ha : ∀ e ∈ o.after,Region.binds .any e = true → Lst l e.on) : DownC ops (l.setIfInBounds i true) := by
  intro j oj e hj hoj he hb
  rw [lst_set hil] at hj ⊢
  right
  rcases hj with rfl | hj
  · rw [ho] at hoj; cases hoj
    exact ha e he hb
  · exact hd j oj e hj hoj he hb
theorem draw_main (hk : SchOk P N ops anc sp sch) {Q' : Exit → Act → World → Prop} (hq : ∀ G' ts m a w,Loc.le G G' → St P w0 G' m w → AR G' N ts a → Q ts m → Q' .normal a w) :
    ∀ (fuel : Nat) (l : Array Bool) (a : Act) (w : World),Inv P w0 N ops anc sp sch G Q l a w true → unl ops.size l ≤ fuel → wpAny P .any ops Q' fuel l a w := by
  intro fuel
  induction fuel with
  | zero =>
    intro l a w h hu
    have hls : l.size = ops.size := by
      obtain ⟨_,_,_,_,_,_,_,_,_,_,_,_,_,_,hls,_⟩ := h
      exact hls
    have hr : Region.ready .any ops l = [] := by
      cases hr : Region.ready .any ops l with
      | nil => rfl
      | cons i r =>
        exfalso
        have hi : i ∈ Region.ready .any ops l := by rw [hr]; simp
        obtain ⟨hn,o,ho,_⟩ := (ready_iff hls).1 hi
        have hin := (Array.getElem?_eq_some_iff.1 ho).1
        have := unl_set (n := ops.size) hin (by omega) hn
        omega
    obtain ⟨G',ts,m,h1,h2,h3,h4⟩ := inv_done hk h hr
    exact ⟨hr,hq G' ts m a w h1 h2 h3 h4⟩
  | succ fuel ih =>
    intro l a w h hu
    refine ⟨fun hr => by obtain ⟨G',ts,m,h1,h2,h3,h4⟩ := inv_done hk h hr; exact hq G' ts m a w h1 h2 h3 h4,fun i hi => ?_⟩
    obtain ⟨G',ts,m,pre,rest,hsch,hle,hs,hsz,hdf,hre,hl,hp,hd,hls,hn,hrs⟩ := h
    obtain ⟨hnl,o,ho,haft⟩ := (ready_iff hls).1 hi
    have hin := (Array.getElem?_eq_some_iff.1 ho).1
    have hil : i < l.size := by omega
    have hun := unl_set (n := ops.size) hin hil hnl
    obtain ⟨g,k,hg,hkk,hd1,hg1,hk1,hdN⟩ := hk.res i o ho
    obtain ⟨b,hb,hbt⟩ := full_frame hre hsz
    have hlook : ∀ t ∈ o.looksAt ops,∀ j ∈ pre,¬ Lst l j → (sp j).d ≠ some t := by
      intro t ht j hj hnj hdj
      obtain ⟨hcj,_⟩ := hp j hj hnj
      have hjn : j < ops.size := (hk.mem j).1 (by rw [hsch]; simp [hj])
      have hoj : ops[j]? = some ops[j] := by simp [hjn]
      obtain ⟨_,_,_,_,e1,_⟩ := hk.res j _ hoj
      by_cases hji : j = i
      · subst hji
        rw [ho] at hoj
        exact hk.self2 j o t hcj ho (by rw [← hd1]; exact hdj) ht
      · obtain ⟨_,f2,_⟩ := hk.fresh j i _ o t hcj hji hoj ho (by rw [← e1]; exact hdj)
        exact hnj (anc_listed hd (f2 ht) fun o' e' h' he' hb' => by rw [ho] at h'; cases h'; exact haft e' he' hb')
    have hag : ∀ t ∈ o.looksAt ops,b.tmps[t]? = a.tmps[t]? := fun t ht => hbt t fun _ => hlook t ht
    have hwant : Region.wanted o (yielded ops a.tmps) = wantD (sp i).g ts := by
      rw [← wanted_agree hag,wanted_eq hb hg,hg1]
    have hexec := exec_agree (ops := ops) (o := o) (fun cs q => hk.nosel i o cs q ho) hag
    unfold wpOp
    simp only [ho]
    by_cases hipre : i ∈ pre
    · -- it has come up ahead,over the abstract memory
      obtain ⟨hch,hst⟩ := hp i hipre hnl
      obtain ⟨d,hdd⟩ : ∃ d,(sp i).d = some d := Option.ne_none_iff_exists'.1 (hk.reads i hin hch)
      have hod : o.dst = some d := by rw [← hd1]; exact hdd
      have hst' := hst d hdd
      have hdlt := hdN d hod
      have fin : ∀ v',VR G' (ts d) v' → wpAny P .any ops Q' fuel (l.setIfInBounds i true) (a.put (some d) v') w := by
        intro v' hv'
        refine ih _ _ _ ⟨G',ts,m,pre,rest,hsch,hle,hs,by simp [Act.put,hsz],hdf,fun t ht => ?_,fun j hj => ?_,fun j hj hnj => ?_,down_set hil hd ho haft,by simp [hls],hn,hrs⟩ (by omega)
        · by_cases htd : t = d
          · subst htd
            exact ⟨v',hv',fun _ => (getD_put_same (by omega)).symm⟩
          · obtain ⟨u,h1,h2⟩ := hre t ht
            refine ⟨u,h1,fun hc => ?_⟩
            rw [getD_put htd]
            refine h2 fun j hj hnj => ?_
            by_cases hji : j = i
            · subst hji; rw [hdd]; exact fun e => htd (by cases e; rfl)
            · exact hc j hj fun hh => by rcases (lst_set hil).1 hh with h | h; exact hji h; exact hnj h
        · rcases (lst_set hil).1 hj with rfl | hj
          · exact hipre
          · exact hl j hj
        · exact hp j hj fun hh => hnj ((lst_set hil).2 (.inr hh))
      rw [hod]
      cases hkr : (sp i).k with
      | r r =>
        simp only [hkr] at hst'
        rw [hwant]
        cases hw : wantD (sp i).g ts with
        | true =>
          simp only [if_true]
          left
          have hdr := hst'.1 hw
          have hkr' : k = .r r := by rw [← hk1,hkr]
          subst hkr'
          obtain ⟨v',h1,h2⟩ := resR_snd (resK_r hkk) hb hs hdr
          unfold Oper.wp
          rw [← hexec,h1,Oper.upon_value,hod]
          exact fin v' h2
        | false =>
          simp only [Bool.false_eq_true,if_false]
          have := hst'.2 hw
          exact fin undef (by rw [this]; exact VR.undef _)
      | a x => simp only [hkr] at hst'
      | e x => simp only [hkr] at hst'
      | c x => simp only [hkr] at hst'
      | nx x => simp only [hkr] at hst'
      | bad => simp only [hkr] at hst'
    · have hisch : i ∈ sch := (hk.mem i).2 hin
      have hirest : i ∈ rest := by
        rw [hsch] at hisch
        exact (List.mem_append.1 hisch).resolve_left hipre
      obtain ⟨c,r',rfl⟩ : ∃ c r',rest = c :: r' := by
        cases rest with
        | nil => cases hirest
        | cons c r' => exact ⟨c,r',rfl⟩
      have hcch := hn rfl c r' rfl
      have hcpre : c ∉ pre := by
        have := hk.nodup
        rw [hsch] at this
        intro hm
        exact (List.nodup_append.1 this).2.2 c hm c (by simp) rfl
      have hic : i = c := by
        rcases List.mem_cons.1 hirest with h | h
        · exact h
        · exfalso
          have ha := hk.chain pre c r' i hsch hcch h
          exact hcpre (hl c (anc_listed hd ha fun o' e' h' he' hb' => by rw [ho] at h'; cases h'; exact haft e' he' hb'))
      subst hic
      have same : ∀ (v : Value),∀ j ∈ pre,¬ Lst l j → ∀ dj oj,(sp j).d = some dj → (sp j).k = .r oj →
          wantD (sp j).g (updo ts o.dst v) = wantD (sp j).g ts ∧ (∀ mm,dR (updo ts o.dst v) mm oj = dR ts mm oj) ∧ updo ts o.dst v dj = ts dj := by
        intro v j hj hnj dj oj hdj hkj
        obtain ⟨hcj,hstj⟩ := hp j hj hnj
        have hji : i ≠ j := by rintro rfl; exact hcpre hj
        have hjn : j < ops.size := (hk.mem j).1 (by rw [hsch]; simp [hj])
        have hoj : ops[j]? = some ops[j] := by simp [hjn]
        obtain ⟨_,_,_,_,e1,_⟩ := hk.res j _ hoj
        have n1 : ¬ Anc ops j i := fun ha => hnj (anc_listed hd ha fun o' e' h' he' hb' => by rw [ho] at h'; cases h'; exact haft e' he' hb')
        have n2 : ¬ Anc ops i j := by
          intro ha
          obtain ⟨p1,p2,hpp⟩ := List.append_of_mem hj
          have := anc_before hk ha p1 (p2 ++ i :: r') (by rw [hsch,hpp]; simp)
          exact hcpre (by rw [hpp]; simp [this])
        obtain ⟨a1,a2⟩ := hk.apart i j o _ hji n2 n1 ho hoj
        obtain ⟨_,a3,_⟩ := Oper.apart_spec a1
        cases hod : o.dst with
        | none => exact ⟨rfl,fun _ => rfl,rfl⟩
        | some d =>
          have hsee := a2 d hod
          have hne : dj ≠ d := by
            rintro rfl
            exact a3 dj hod (by rw [← e1]; exact hdj)
          exact ⟨wantD_upd hsee,fun mm => dR_upd hkj hsee,by simp [updo,upd,hne]⟩
      -- what is pending reads the same behind it
      have keep : ∀ (v : Value) (m' : Mem),(∀ j ∈ pre,¬ Lst l j → ∀ dj oj,(sp j).d = some dj → (sp j).k = .r oj → wantD (sp j).g (updo ts o.dst v) = true → memFree oj = false → dR (updo ts o.dst v) m' oj = some (updo ts o.dst v dj)) →
          ∀ j ∈ pre,¬ Lst l j → isCh (sp j) = false ∧ Stable (sp j) (updo ts o.dst v) m' := by
        intro v m' hmem j hj hnj
        obtain ⟨hcj,hstj⟩ := hp j hj hnj
        refine ⟨hcj,?_⟩
        intro dj hdj
        have hstj' := hstj dj hdj
        cases hkj : (sp j).k with
        | r oj =>
          simp only [hkj] at hstj' ⊢
          obtain ⟨q1,q2,q3⟩ := same v j hj hnj dj oj hdj hkj
          refine ⟨fun hw => ?_,fun hw => ?_⟩
          · cases hmf : memFree oj with
            | false => exact hmem j hj hnj dj oj hdj hkj hw hmf
            | true =>
              rw [q3,q2,dR_mem (m' := m) hmf]
              rw [q1] at hw
              exact hstj'.1 hw
          · rw [q3]
            rw [q1] at hw
            exact hstj'.2 hw
        | a x => simp only [hkj] at hstj'
        | e x => simp only [hkj] at hstj'
        | c x => simp only [hkj] at hstj'
        | nx x => simp only [hkj] at hstj'
        | bad => simp only [hkj] at hstj'
      have fin : ∀ (G2 : Loc) (v v' : Value) (m' : Mem) (w' : World),Loc.le G' G2 → VR G2 v v' → St P w0 G2 m' w' → (∀ j ∈ pre,¬ Lst l j → isCh (sp j) = false ∧ Stable (sp j) (updo ts o.dst v) m') →
          RS P w0 Q (stepsOf anc sp (pre ++ [i]) r') (updo ts o.dst v) m' → wpAny P .any ops Q' fuel (l.setIfInBounds i true) (a.put o.dst v') w' := by
        intro G2 v v' m' w' g1 g2 g3 g4 g5
        refine ih _ _ _ (inv_normal hk ⟨G2,updo ts o.dst v,m',pre ++ [i],r',by rw [hsch]; simp,Loc.le_trans hle g1,g3,?_,?_,fun t ht => ?_,fun j hj => ?_,fun j hj hnj => ?_,down_set hil hd ho haft,by simp [hls],(fun e => by cases e),g5⟩) (by omega)
        · cases o.dst <;> simp [Act.put,hsz]
        · cases o.dst <;> simpa [Act.put] using hdf
        · have hother : ∀ u,VR G' (ts t) u → ((∀ j ∈ pre,¬ Lst l j → (sp j).d ≠ some t) → u = a.tmps.getD t undef) → (∀ j ∈ pre ++ [i],¬ Lst (l.setIfInBounds i true) j → (sp j).d ≠ some t) → u = a.tmps.getD t undef := by
            intro u _ h2 hc
            refine h2 fun j hj hnj => hc j (by simp [hj]) fun hh => ?_
            rcases (lst_set hil).1 hh with h | h
            · subst h; exact hcpre hj
            · exact hnj h
          cases hod : o.dst with
          | none =>
            obtain ⟨u,h1,h2⟩ := hre t ht
            exact ⟨u,h1.mono g1,fun hc => hother u h1 h2 hc⟩
          | some d =>
            by_cases htd : t = d
            · subst htd
              exact ⟨v',by simpa [updo,upd] using g2,fun _ => (getD_put_same (by omega)).symm⟩
            · obtain ⟨u,h1,h2⟩ := hre t ht
              refine ⟨u,by simpa [updo,upd,htd] using h1.mono g1,fun hc => ?_⟩
              rw [getD_put htd]
              exact hother u h1 h2 hc
        · rcases (lst_set hil).1 hj with rfl | hj
          · simp
          · simp [hl j hj]
        · rcases List.mem_append.1 hj with hj | hj
          · exact g4 j hj fun hh => hnj ((lst_set hil).2 (.inr hh))
          · simp at hj
            subst hj
            exact (hnj ((lst_set hil).2 (.inl rfl))).elim
      unfold stepsOf at hrs
      unfold RS at hrs
      simp only [hcch,if_true,hd1] at hrs
      rw [hwant]
      cases hw : wantD (sp i).g ts with
      | true =>
        simp only [if_true]
        simp only [hw,if_true] at hrs
        left
        rw [hk1] at hrs
        have hy := SK_yl hkk hb hs hrs
        rw [hexec] at hy
        refine wp_of_Yl hy ?_
        rintro v' w' ⟨G2,v,m',g1,g2,g3,g4,g5⟩
        refine fin G2 v v' m' w' g1 g2 g3 (keep v m' fun j hj hnj dj oj hdj hkj hwj hmf => ?_) g5
        refine stabOk_mem g4 dj (sp j).g oj ?_ hwj
        unfold stabOf
        rw [List.mem_filterMap]
        refine ⟨j,hj,?_⟩
        have n1 : anc j i = false := by
          cases hrb : anc j i with
          | false => rfl
          | true => exact (hnj (anc_listed hd (hk.anc _ _ hrb) fun o' e' h' he' hb' => by rw [ho] at h'; cases h'; exact haft e' he' hb')).elim
        simp [hkj,hdj,n1,hmf]
      | false =>
        simp only [Bool.false_eq_true,if_false]
        simp only [hw,Bool.false_eq_true,if_false] at hrs
        refine fin G' undef undef m w (Loc.le_refl G') (VR.undef _) hs (keep undef m fun j hj hnj dj oj hdj hkj hwj _ => ?_) hrs
        obtain ⟨q1,q2,q3⟩ := same undef j hj hnj dj oj hdj hkj
        have hstj' := (hp j hj hnj).2 dj hdj
        simp only [hkj] at hstj'
        rw [q1] at hwj
        rw [q2,q3]
        exact hstj'.1 hwj
end
end Go.Proofs.YtccjlggpiliilaaGreatDoor.Ab
