/- Operations that make or write memory: abstract, and that the real ones do what stands for it. -/
import Derived.Test.YtgfkjldohilmkaaDoorAbx6
set_option linter.unusedVariables false
set_option linter.unusedSimpArgs false
namespace Go.Proofs.YtgfkjldohilmkaaDoor.Ab
open Go Go.RowKit

theorem setCells_spec (b : Nat) : ∀ (vs : List Value) (o : Nat) (w : World) (c : Array Value) (e : TypeId) (fz : Nat × Nat), w.heap[b]? = some (.cells c e fz) → o + vs.length ≤ c.size →
    (w.setCells b o vs).heap[b]? = some (.cells ⟨putAt c.toList o vs⟩ e fz) ∧ (∀ k, k ≠ b → (w.setCells b o vs).heap[k]? = w.heap[k]?) ∧ (w.setCells b o vs).heap.size = w.heap.size ∧
      (w.setCells b o vs).os = w.os ∧ (w.setCells b o vs).tape = w.tape ∧ (w.setCells b o vs).output = w.output
  | [], o, w, c, e, fz, h, hl => by
    have : putAt c.toList o [] = c.toList := by simp [putAt]
    rw [this]
    exact ⟨h, fun _ _ => rfl, rfl, rfl, rfl, rfl⟩
  | v :: r, o, w, c, e, fz, h, hl => by
    simp only [List.length_cons] at hl
    have h1 : (w.setCell ⟨b, o, none⟩ v).heap[b]? = some (.cells (c.setIfInBounds o v) e fz) := by
      simp [World.setCell, Array.getElem?_modify, h]
    obtain ⟨h2, h3, h4, h5, h6, h7⟩ := setCells_spec b r (o + 1) (w.setCell ⟨b, o, none⟩ v) _ e fz h1 (by simp; omega)
    simp only [World.setCells]
    refine ⟨?_, fun k hk => ?_, ?_, h5, h6, h7⟩
    · rw [h2]
      have : putAt (c.setIfInBounds o v).toList (o + 1) r = putAt c.toList o (v :: r) := by
        rw [Array.toList_setIfInBounds]
        exact putAt_set c.toList o v r (by simpa using (by omega : o < c.size))
      rw [this]
    · rw [h3 k hk]
      exact Below.heap_setCell _ _ _ _ hk
    · rw [h4]; simp [World.setCell]

inductive EO where
  | al (zero : List Value) (e : TypeId)
  | bx (e : TypeId) (x : Operand)
  | bsl (e : TypeId) (sz len : Nat) (zero : List Value) (parts : List (Nat × Nat × Operand))
  | st (n : Nat) (p x : Operand)
  | app (e : TypeId) (sz bytes : Nat) (x y : Operand)
  | mks (e : TypeId) (bytes : Nat) (zero : Value) (n c : Operand)
  | s2b (e : TypeId) (x : Operand)
  | cpy (sz : Nat) (x y : Operand)
  | ust (e : TypeId) (p n : Operand)
  | mkm
  | mup (str : Bool) (x k v : Operand)

def oneC : Value → Bool
  | .agg _ | .tuple _ => false
  | _ => true
theorem oneC_eq (v : Value) : oneC v = v.oneCell' := by cases v <;> rfl

def byteV (b : UInt8) : Value := .int .u8 b.toNat
/-- The elements of a slice, as cells. -/
def elemsV (m : Mem) (sz : Nat) : Value → Option (List Value)
  | .slice none _ _ => some []
  | .slice (some ⟨_, _, some _⟩) _ _ => some []
  | .slice (some ⟨i, o, none⟩) n _ => m.row i o (n * sz)
  | .string s => if sz = 1 then some (s.data.toList.map byteV) else none
  | _ => none
def lenV : Value → Nat
  | .slice _ n _ => n
  | .string s => s.size
  | _ => 0

/-- An entry of a map is written. -/
def mapPut : List MapEntry → Nat → Value → Value → List MapEntry
  | [], _, _, _ => []
  | e :: es, 0, k, v => ⟨k, v, e.born⟩ :: es
  | e :: es, i + 1, k, v => e :: mapPut es i k v

def dE (ts : Fr) (m : Mem) : EO → Option (Value × Mem)
  | .al zero e => some (.pointer (some ⟨m.next, 0, none⟩), m.push (.own zero e))
  | .bx e x => some (.pointer (some ⟨m.next, 0, none⟩), m.push (.own (cellsV (ev ts x)) e))
  | .bsl e sz len zero parts => match fillD ts parts zero with
    | some cs => if cs.length = len * sz then some (.slice (some ⟨m.next, 0, none⟩) len sz, m.push (.own cs e)) else none
    | none => none
  | .st n p x => match ev ts p with
    | .pointer (some ⟨i, o, none⟩) => match m.get i with
      | .own cs e => if o + n ≤ cs.length ∧ (cellsV (ev ts x)).length = n ∧ (cellsV (ev ts x)).all oneC = true then some (undef, m.set i (.own (putAt cs o (cellsV (ev ts x))) e)) else none
      | _ => none
    | _ => none
  | .app e sz bytes x y => match elemsV m sz (ev ts y) with
    | none => none
    | some ys => if lenV (ev ts y) = 0 then (match ev ts x with | .slice a n c => some (.slice a n c, m) | _ => none) else
      if ys.all oneC = true ∧ (lenV (ev ts x) + lenV (ev ts y)) * bytes ≤ 140737488355328 ∧ lenV (ev ts x) + lenV (ev ts y) ≤ maxLen then
        match ev ts x with
        | .slice none _ _ => some (.slice (some ⟨m.next, 0, none⟩) (lenV (ev ts y)) sz, m.push (.own ys e))
        | .slice (some ⟨i, o, none⟩) n z => match m.get i with
          | .own cs e' => if o + n * sz ≤ cs.length ∧ z = sz ∧ e' = e ∧ o % sz = 0 then
              some (.slice (some ⟨m.next, 0, none⟩) (n + lenV (ev ts y)) sz, (m.set i .dead).push (.own ((cs.drop o).take (n * sz) ++ ys) e))
            else none
          | _ => none
        | _ => none
      else none
  | .mks e bytes zero n c => match ev ts n, ev ts c with
    | .int .i64 a, .int .i64 b => if 0 ≤ a ∧ a ≤ b ∧ bytes * b ≤ 140737488355328 ∧ b ≤ (maxLen : Nat) then
        some (.slice (some ⟨m.next, 0, none⟩) a.toNat 1, m.push (.own (List.replicate a.toNat zero) e))
      else none
    | _, _ => none
  | .s2b e x => match ev ts x with
    | .string s => if s.size ≤ 140737488355328 then some (.slice (some ⟨m.next, 0, none⟩) s.size 1, m.push (.own (s.data.toList.map byteV) e)) else none
    | _ => none
  | .cpy sz x y => match elemsV m sz (ev ts y), ev ts x with
    | some ys, .slice (some ⟨i, o, none⟩) n _ => match m.get i with
      | .own cs e => if o + min (lenV (ev ts y)) n * sz ≤ cs.length ∧ ys.all oneC = true then
          some (.int .i64 (min (lenV (ev ts y)) n : Nat), m.set i (.own (putAt cs o (ys.take (min (lenV (ev ts y)) n * sz))) e)) else none
      | _ => none
    | some ys, .slice _ 0 _ => some (.int .i64 0, m)
    | _, _ => none
  | .ust e p n => match ev ts p, ev ts n with
    | .pointer none, .int .i64 k => if k = 0 then some (.string .empty, m) else none
    | .pointer (some ⟨i, o, none⟩), .int .i64 k => if k = 0 then some (.string .empty, m) else if 0 < k ∧ k ≤ 9223372036854775807 then match m.get i with
      | .own cs e' => if e' = e ∧ o + k.toNat ≤ cs.length then match bytesOf ((cs.drop o).take k.toNat) with
          | some bs => some (.string ⟨bs.toArray⟩, m.set i .dead)
          | none => none
        else none
      | _ => none else none
    | _, _ => none
  | .mkm => some (.map (some m.next), m.push (.map [] 0))
  | .mup str x k v => match ev ts x with
    | .map (some r) => match m.get r with
      | .map es clock => match mapFind str (ev ts k) es 0 with
        | some (some (i, _)) => some (undef, m.set r (.map (mapPut es i (ev ts k) (ev ts v)) clock))
        | some none => some (undef, m.set r (.map (es ++ [⟨ev ts k, ev ts v, clock⟩]) (Nat.succ clock)))
        | none => none
      | _ => none
    | _ => none

/-- An own block is given up, and a new one lies in its place: from a cell on. -/
theorem St.move {P : Program} {w0 w w' : World} {G : Loc} {m : Mem} (h : St P w0 G m w) {i B b b' S : Nat} {e : Ent} (hm : (m.get i).mine = true) (hg : G i = some (B, b, S))
    (ho : w'.os = w.os) (ht : w'.tape = w.tape) (hu : w'.output = w.output) (hs : w'.heap.size = w.heap.size) (hb : ∀ k, k ≠ B → w'.heap[k]? = w.heap[k]?)
    (hE : ER w0 w' (fun j => if j = m.next then some (B, b', S) else G j) B b' S e) (hal : ∀ cs e', e = .own cs e' → b' % P.cellsOf e' = 0) :
    Loc.le G (fun j => if j = m.next then some (B, b', S) else G j) ∧ St P w0 (fun j => if j = m.next then some (B, b', S) else G j) ((m.set i .dead).push e) w' := by
  have hle : Loc.le G (fun j => if j = m.next then some (B, b', S) else G j) := by
    intro j x hx
    have := h.dom j x hx
    show (if j = m.next then some (B, b', S) else G j) = some x
    rw [if_neg (by omega)]; exact hx
  refine ⟨hle, ?_⟩
  have hB : w0.heap.size ≤ B := by
    obtain ⟨B2, b2, S2, g2, r⟩ := h.ent i (by intro e; rw [e] at hm; cases hm)
    rw [hg] at g2
    cases g2
    exact r.size hm
  have hBl := h.lim i B b S (Ent.live hm) hg
  refine ⟨⟨by rw [ho, h.below.os], by rw [ht, h.below.tape], by rw [hu, h.below.output], by rw [hs]; exact h.below.size, fun k hk => by rw [hb k (by omega)]; exact h.below.block k hk⟩, ?_, ?_, ?_, ?_, ?_, ?_⟩
  · intro j x hx
    by_cases hj : j = m.next
    · subst hj; simp
    · simp only [hj, if_false] at hx
      have := h.dom j x hx
      simp; omega
  · intro j B2 b2 S2 hd hx
    rw [hs]
    by_cases hj : j = m.next
    · subst hj
      simp at hx
      rw [← hx.1]; exact hBl
    · simp only [hj, if_false] at hx
      by_cases hji : j = i
      · subst hji; exact h.lim j B2 b2 S2 (Ent.live hm) hx
      · exact h.lim j B2 b2 S2 (by simpa only [Mem.push_get, Mem.set_next, hj, if_false, Mem.set_get, hji] using hd) hx
  · intro k hd
    by_cases hk : k = m.next
    · subst hk
      exact ⟨B, b', S, by simp, by simpa [Mem.push] using hE⟩
    · by_cases hki : k = i
      · subst hki
        simp [Mem.push_get, Mem.set_get, hk] at hd
      · simp only [Mem.push_get, Mem.set_next, hk, if_false, Mem.set_get, hki] at hd ⊢
        obtain ⟨B2, b2, S2, g2, r⟩ := h.ent k hd
        refine ⟨B2, b2, S2, g2, (r.keep fun hm' => hb _ fun e => ?_).mono hle⟩
        subst e
        exact hki (h.inj k i _ _ _ hm' hm g2 hg)
  · intro k j B2 b2 c hk hj gk gj
    by_cases h1 : k = m.next <;> by_cases h2 : j = m.next
    · rw [h1, h2]
    · exfalso
      by_cases hji : j = i
      · subst hji
        simp [Mem.push_get, Mem.set_get, h2, Ent.mine] at hj
      · simp only [Mem.push_get, Mem.set_next, h2, if_false, Mem.set_get, hji] at hj
        simp only [h1, if_true, h2, if_false, Option.some.injEq, Prod.mk.injEq] at gk gj
        rw [← gk.1] at gj
        exact hji (h.inj j i _ _ _ hj hm gj hg)
    · exfalso
      by_cases hki : k = i
      · subst hki
        simp [Mem.push_get, Mem.set_get, h1, Ent.mine] at hk
      · simp only [Mem.push_get, Mem.set_next, h1, if_false, Mem.set_get, hki] at hk
        simp only [h1, if_false, h2, if_true, Option.some.injEq, Prod.mk.injEq] at gk gj
        rw [← gj.1] at gk
        exact hki (h.inj k i _ _ _ hk hm gk hg)
    · have key : ∀ x, x ≠ m.next → (((m.set i .dead).push e).get x).mine = true → (m.get x).mine = true := by
        intro x hx hm'
        by_cases e' : x = i
        · subst e'; simp [Mem.push_get, Mem.set_get, hx, Ent.mine] at hm'
        · simpa only [Mem.push_get, Mem.set_next, hx, if_false, Mem.set_get, e'] using hm'
      simp only [h1, h2, if_false] at gk gj
      exact h.inj k j B2 b2 c (key k h1 hk) (key j h2 hj) gk gj
  · intro g hgl
    obtain ⟨S', hS'⟩ := h.glob g hgl
    exact ⟨S', hle _ _ hS'⟩
  · intro k cs e' B2 b2 S2 hk hx
    by_cases h1 : k = m.next
    · subst h1
      simp only [if_true, Option.some.injEq, Prod.mk.injEq] at hx
      have : ((m.set i .dead).push e).get m.next = e := by simp [Mem.push_get]
      rw [this] at hk
      rw [← hx.2.1]; exact hal cs e' hk
    · by_cases h2 : k = i
      · subst h2
        simp [Mem.push_get, Mem.set_get, h1] at hk
      · simp only [Mem.push_get, Mem.set_next, h1, if_false, Mem.set_get, h2] at hk hx
        exact h.ali k cs e' B2 b2 S2 hk hx

section
variable {P : Program} {w0 w : World} {G : Loc} {m : Mem}

/-- What an operation that makes or writes leaves. -/
def Leaves (P : Program) (w0 w : World) (G : Loc) (v : Value) (m' : Mem) (v' : Value) (w' : World) : Prop :=
  ∃ G', Loc.le G G' ∧ VR G' v v' ∧ St P w0 G' m' w'

theorem own_new (hs : St P w0 G m w) {cs cs' : List Value} {extra : List Value} {e : TypeId} (fz : Nat × Nat) (hfz : openRow (cs' ++ extra).length fz) (h : VRs G cs cs') :
    Loc.le G (fun i => if i = m.next then some (w.heap.size, 0, (cs' ++ extra).length) else G i) ∧ St P w0 (fun i => if i = m.next then some (w.heap.size, 0, (cs' ++ extra).length) else G i) (m.push (.own cs e)) (w.alloc (.cells ⟨cs' ++ extra⟩ e fz)) := by
  have hle : Loc.le G (fun i => if i = m.next then some (w.heap.size, 0, (cs' ++ extra).length) else G i) := by
    intro i x hx
    have := hs.dom i x hx
    show (if i = m.next then some (w.heap.size, 0, (cs' ++ extra).length) else G i) = some x
    rw [if_neg (by omega)]; exact hx
  refine hs.alloc _ _ _ ⟨hs.below.size, ⟨cs' ++ extra⟩, fz, heap_alloc_new w _, by simp, hfz, fun j v hj => ?_⟩
  obtain ⟨v', h1, h2⟩ := h.get j v hj
  have hl : j < cs'.length := (List.getElem?_eq_some_iff.1 h1).1
  exact ⟨v', by simp [List.getElem?_append_left hl, h1], h2.mono hle⟩

theorem open00 (n : Nat) : openRow n (0, 0) := by intro o _ h; exact absurd h.2 (by simp)

theorem snd_new (hs : St P w0 G m w) {t : TypeId} {v v' : Value} (h : VR G v v') :
    ∃ w', (newVar t v').run P w = .ok ⟨w.heap.size, 0, none⟩ w' ∧ Leaves P w0 w G (.pointer (some ⟨m.next, 0, none⟩)) (m.push (.own (cellsV v) t)) (.pointer (some ⟨w.heap.size, 0, none⟩)) w' := by
  have h0 := own_new hs (cs := cellsV v) (cs' := v'.cells.toList) (extra := []) (e := t) (0, 0) (open00 _) h.cells
  refine ⟨w.alloc (.cells v'.cells t), by simp [newVar, newRow], _, h0.1, ?_, by simpa using h0.2⟩
  exact VR.ptr m.next 0 w.heap.size 0 (v'.cells.toList ++ []).length (by simp)

theorem snd_al (hs : St P w0 G m w) {t : TypeId} {i : TypeInfo} {z : Value} (hi : P.info? t = some i) (hz : i.zero = some z) (hp : plainV 6 z = true) :
    ∃ v' w', (Instr.alloc t true (.tuple #[])).run P w = .ok v' w' ∧ Leaves P w0 w G (.pointer (some ⟨m.next, 0, none⟩)) (m.push (.own (cellsV z) t)) v' w' := by
  obtain ⟨w', h1, h2⟩ := snd_new hs (t := t) (VR.plain (G := G) 6 z hp)
  exact ⟨_, w', by simp [Instr.alloc, zeroValue, typeInfo, hi, hz, h1], h2⟩

theorem snd_bx (hs : St P w0 G m w) {t : TypeId} {v v' : Value} (h : VR G v v') :
    ∃ u w', (Instr.box t v').run P w = .ok u w' ∧ Leaves P w0 w G (.pointer (some ⟨m.next, 0, none⟩)) (m.push (.own (cellsV v) t)) u w' := by
  obtain ⟨w', h1, h2⟩ := snd_new hs (t := t) h
  exact ⟨_, w', by simp [Instr.box, h1], h2⟩

theorem own_get (hs : St P w0 G m w) {i B b S : Nat} {cs : List Value} {e : TypeId} (hg : G i = some (B, b, S)) (h : m.get i = .own cs e) :
    w0.heap.size ≤ B ∧ ∃ c fz, w.heap[B]? = some (.cells c e fz) ∧ c.size = S ∧ openRow c.size fz ∧ (∀ (j : Nat) (v : Value), cs[j]? = some v → ∃ v', c[b + j]? = some v' ∧ VR G v v') ∧ (0 < cs.length → b + cs.length ≤ c.size) := by
  obtain ⟨B', b', S', g', r⟩ := hs.ent i (by rw [h]; simp)
  rw [hg] at g'
  cases g'
  rw [h] at r
  obtain ⟨h0, c, fz, h1, hS, h2, h3⟩ := r
  refine ⟨h0, c, fz, h1, hS, h2, h3, fun hpos => ?_⟩
  obtain ⟨v', hv, _⟩ := h3 (cs.length - 1) (cs[cs.length - 1]'(by omega)) (by simp)
  have := (Array.getElem?_eq_some_iff.1 hv).1
  omega

theorem putAt_get (cs : List Value) (o : Nat) (vs : List Value) (h : o + vs.length ≤ cs.length) (j : Nat) : (putAt cs o vs)[j]? = if o ≤ j ∧ j < o + vs.length then vs[j - o]? else cs[j]? := by
  unfold putAt
  rw [List.append_assoc, List.getElem?_append]
  have hl : (cs.take o).length = o := by simp; omega
  rw [hl]
  by_cases h1 : j < o
  · rw [if_pos h1, if_neg (by omega), List.getElem?_take, if_pos h1]
  · rw [if_neg h1, List.getElem?_append]
    by_cases h2 : j - o < vs.length
    · rw [if_pos h2, if_pos (by omega)]
    · rw [if_neg h2, if_neg (by omega), List.getElem?_drop]
      congr 1; omega

theorem putAt_length (cs : List Value) (o : Nat) (vs : List Value) (h : o + vs.length ≤ cs.length) : (putAt cs o vs).length = cs.length := by
  unfold putAt; simp; omega

theorem cells_frozen {w : World} {B : Nat} {c : Array Value} {e : TypeId} {fz : Nat × Nat} (h : w.heap[B]? = some (.cells c e fz)) (ho : openRow c.size fz) (j : Nat) (hj : j < c.size) : w.frozen? ⟨B, j, none⟩ = false := by
  have := ho j hj
  simp only [World.frozen?, h]
  simpa using this

theorem cells_some {w : World} {B : Nat} {c : Array Value} {e : TypeId} {fz : Nat × Nat} (h : w.heap[B]? = some (.cells c e fz)) (j : Nat) (hj : j < c.size) : (w.cell? ⟨B, j, none⟩).isSome = true := by
  simp [World.cell?, h, hj]

/-- Cells are written into an own block. -/
theorem snd_put (hs : St P w0 G m w) {i o B b S : Nat} {cs vs vs' : List Value} {e : TypeId} (hg : G i = some (B, b, S)) (h : m.get i = .own cs e) (hl : o + vs.length ≤ cs.length) (hv : VRs G vs vs') (h1 : vs.all oneC = true) :
    ∃ w', (storeCells ⟨B, b + o, none⟩ vs').run P w = .ok () w' ∧ St P w0 G (m.set i (.own (putAt cs o vs) e)) w' := by
  obtain ⟨h0, c, fz, hw, hS, hfz, hc, hsz⟩ := own_get hs hg h
  by_cases hpos : vs = []
  · subst hpos
    cases hv
    refine ⟨w, rfl, ?_⟩
    have : putAt cs o [] = cs := by simp [putAt]
    rw [this]
    exact hs.write (by rw [h]; rfl) hg rfl rfl rfl rfl (fun _ _ => rfl) ⟨h0, c, fz, hw, hS, hfz, hc⟩ fun _ _ hE => by cases hE; exact ⟨_, h⟩
  · have hlen : 0 < vs.length := List.length_pos_iff.2 hpos
    have hsz := hsz (by omega)
    have h1' : ∀ v ∈ vs', v.oneCell' = true := by
      have key : ∀ (l l' : List Value), VRs G l l' → l.all oneC = true → ∀ v ∈ l', v.oneCell' = true := by
        intro l
        induction l with
        | nil => intro l' hl' _ v hv; cases hl'; cases hv
        | cons x l ih =>
          intro l' hl' ha v hv
          cases hl' with
          | cons _ x' _ l'' hx hxs =>
            simp only [List.all_cons, Bool.and_eq_true] at ha
            rcases List.mem_cons.1 hv with rfl | hv
            · cases hx <;> first | rfl | (simp [oneC] at ha)
            · exact ih l'' hxs ha.2 v hv
      exact key vs vs' hv h1
    have hvl := hv.length
    have hrun := run_storeCells_cells (P := P) B (b + o) vs' 0 w (fun j hj => by rw [Nat.add_zero]; exact cells_some hw _ (by omega)) (fun j hj => by rw [Nat.add_zero]; exact cells_frozen hw hfz _ (by omega)) h1'
    obtain ⟨s1, s2, s3, s4, s5, s6⟩ := setCells_spec B vs' (b + o) w c e fz hw (by omega)
    have hsame : (⟨putAt c.toList (b + o) vs'⟩ : Array Value).size = c.size := by
      have := putAt_length c.toList (b + o) vs' (by simpa using (by omega : b + o + vs'.length ≤ c.size))
      simpa using this
    refine ⟨_, hrun, hs.write (by rw [h]; rfl) hg s4 s5 s6 s3 s2 ⟨h0, _, fz, s1, by rw [hsame]; exact hS, ?_, fun j v hj => ?_⟩ fun _ _ hE => by cases hE; exact ⟨_, h⟩⟩
    · rw [hsame]; exact hfz
    · rw [putAt_get cs o vs hl] at hj
      have hq : ((⟨putAt c.toList (b + o) vs'⟩ : Array Value))[b + j]? = if b + o ≤ b + j ∧ b + j < b + o + vs'.length then vs'[b + j - (b + o)]? else c[b + j]? := by
        have := putAt_get c.toList (b + o) vs' (by simpa using (by omega : b + o + vs'.length ≤ c.size)) (b + j)
        simpa using this
      rw [hq]
      split at hj
      · rename_i hc1
        rw [if_pos (by omega), show b + j - (b + o) = j - o from by omega]
        exact hv.get _ _ hj
      · rename_i hc1
        rw [if_neg (by omega)]
        exact hc j v hj

theorem snd_st (hs : St P w0 G m w) {t : TypeId} {ti : TypeInfo} {n : Nat} (hi : P.info? t = some ti) (hn : ti.size = n) {i o : Nat} {cs : List Value} {e : TypeId} {x x' p : Value} (hp : VR G (.pointer (some ⟨i, o, none⟩)) p) (hx : VR G x x')
    (h : m.get i = .own cs e) (hl : o + n ≤ cs.length) (hc : (cellsV x).length = n) (h1 : (cellsV x).all oneC = true) :
    ∃ w', (Instr.storeAt t p x').run P w = .ok () w' ∧ St P w0 G (m.set i (.own (putAt cs o (cellsV x)) e)) w' := by
  cases hp with
  | ptr _ _ B b S hg =>
    have hxc := hx.cells
    obtain ⟨w', hr, hst⟩ := snd_put (o := o) hs hg h (by omega) hxc h1
    refine ⟨w', ?_, hst⟩
    have : x'.cells.size = ti.size := by
      have := hxc.length
      rw [hc] at this
      rw [hn]; simpa using this
    simp [Instr.storeAt, Instr.sureAddr, storeVar, run_sizeOf hi, this, hr]


theorem byteV_oneC (l : List UInt8) : (l.map byteV).all oneC = true := by
  rw [List.all_eq_true]
  intro v hv
  obtain ⟨b, _, rfl⟩ := List.mem_map.1 hv
  rfl
theorem byteV_flat {G : Loc} (l : List UInt8) : VRs G (l.map byteV) (l.map byteV) := VRs.refl_of _ fun v hv => by
  obtain ⟨b, _, rfl⟩ := List.mem_map.1 hv
  exact .int _ _

theorem snd_elems (hs : St P w0 G m w) {sz : Nat} {x x' : Value} {ys : List Value} (hx : VR G x x') (h : elemsV m sz x = some ys) :
    ∃ ys' : List Value, (∀ w', w'.heap = w.heap → (Builtin.firstCells sz (lenV x) x').run P w' = .ok ys'.toArray w') ∧ VRs G ys ys' ∧ (∀ w', (Builtin.lenOf x').run P w' = .ok (lenV x) w') ∧ ys.length = lenV x * sz := by
  unfold elemsV at h
  split at h
  · simp at h; subst h
    cases hx
    exact ⟨[], fun w' _ => by simp [Builtin.firstCells, lenV], .nil, fun w' => by simp [Builtin.lenOf, lenV], by simp [lenV]⟩
  · simp at h; subst h
    cases hx
    exact ⟨[], fun w' _ => by simp [Builtin.firstCells, lenV, loadCells, loadCellsFrom], .nil, fun w' => by simp [Builtin.lenOf, lenV], by simp [lenV]⟩
  · rename_i i o n c
    cases hx with
    | sl _ _ B b S _ cp z hg hn hc hS =>
      obtain ⟨cs', h1, h2, h3⟩ := hs.row hg h
      refine ⟨cs', fun w' hw => ?_, h2, fun w' => by simp [Builtin.lenOf, lenV], by rw [← h2.length, h1]; simp [lenV]⟩
      have hl := run_loadCells_list (P := P) (w := w') ⟨B, b + o, none⟩ cs' (fun j v hj => by
        have := h3 j v hj
        simp only [World.cell?, hw] at this ⊢
        exact this)
      rw [h1] at hl
      simp [Builtin.firstCells, lenV, hl]
  · rename_i s
    split at h
    · rename_i hsz
      subst hsz
      simp at h; subst h
      cases hx
      refine ⟨s.data.toList.map byteV, fun w' _ => ?_, byteV_flat _, fun w' => by simp [Builtin.lenOf, lenV], by simp [lenV, ByteArray.toList_eq]⟩
      simp only [Builtin.firstCells, lenV, Sem.run_pure, ByteArray.toList_eq]
      congr 1
      apply Array.ext'
      have : s.extract 0 s.size = s := by simp
      rw [this]
      simp [byteV]
    · cases h
  · cases h

theorem VRs.oneC : ∀ {l l' : List Value}, VRs G l l' → l.all Ab.oneC = true → ∀ v ∈ l', v.oneCell' = true
  | _, _, .nil, _, v, hv => by cases hv
  | _, _, .cons x x' l l' hx hxs, ha, v, hv => by
    simp only [List.all_cons, Bool.and_eq_true] at ha
    rcases List.mem_cons.1 hv with rfl | hv
    · cases hx <;> first | rfl | (simp [Ab.oneC] at ha)
    · exact VRs.oneC hxs ha.2 v hv

/-- No whole number's type. -/
def noInt (P : Program) (t : TypeId) : Bool := match P.underlying t with
  | some (.int _) | none => false
  | _ => true
theorem noInt_run {t : TypeId} (h : noInt P t = true) : ∃ d, P.underlying t = some d ∧ ∀ k, d ≠ .int k := by
  unfold noInt at h
  split at h
  · cases h
  · cases h
  · rename_i h1 h2
    cases hd : P.underlying t with
    | none => exact (h2 hd).elim
    | some d => exact ⟨d, rfl, fun k e => h1 k (by rw [hd, e])⟩

/-- append, behind the question whether it is append of a make. -/
def appTail (P : Program) (elem : TypeId) (size : Nat) (base : Option Addr) (sLen sCap : Nat) (s x : Value) : Sem Value := do
  let n ← Builtin.lenOf x
  let need := sLen + n
  if need ≤ sCap then
    let new ← Builtin.firstCells size n x
    if let some a := base then storeCells (a.add (sLen * size)) new.toList
    pure (.slice base need sCap)
  else
    if (need : Int) > IntKind.i64.max ∧ (False ∨ (← typeInfo elem).bytes = 0) then runtimePanic (.error "growslice: len out of range")
    if Builtin.nextslicecap need sCap * (← typeInfo elem).bytes > 2 ^ 48 then (do
      if !(← Builtin.mayShare size sLen n base x) then mark .noRoom
      unsupported (.resourceLimit "append: a slice or a string whose bytes no memory bears"))
    let newCap ← choose (.appendCap need sCap elem)
    askRoom (newCap * (← typeInfo elem).bytes)
    let old ← Builtin.firstCells size sLen s
    let new ← Builtin.firstCells size n x
    let rest := Builtin.zeroCells (← zeroValue elem).cells (newCap - need)
    pure (.slice (some (← newRow elem (old ++ new ++ rest))) need newCap)

theorem app_tail {t t2 ty e : TypeId} {i : TypeInfo} (ht : P.underlying t = some (.slice e)) (h2 : noInt P t2 = true) (hi : P.info? e = some i) (base : Option Addr) (n c : Nat) (y : Value) :
    (Builtin.append_ #[t, t2] ty #[.slice base n c, y]).run P w = (appTail P e i.size base n c (.slice base n c) y).run P w := by
  obtain ⟨d, hd, hdi⟩ := noInt_run h2
  have hm : ∀ (x y : Bool), (match d with | .int _ => x | _ => y) = y := by intro x y; cases d <;> first | rfl | exact (hdi _ rfl).elim
  unfold Builtin.append_ appTail
  cases d <;> first
    | exact (hdi _ rfl).elim
    | (simp only [Sem.run_bind, run_underlying ht, run_underlying hd, run_sizeOf hi, Result.andThen_ok, Sem.run_pure, List.getElem?_toArray, List.getElem?_cons_zero, List.getElem?_cons_succ, Bool.false_eq_true, ↓reduceIte, Bool.not_false, false_or]; done)
    | (simp only [Sem.run_bind, run_underlying ht, run_underlying hd, run_sizeOf hi, Result.andThen_ok, Sem.run_pure, List.getElem?_toArray, List.getElem?_cons_zero, List.getElem?_cons_succ, Bool.false_eq_true, ↓reduceIte, Bool.not_false, false_or]; rfl)

theorem run_app_grow' {t t2 ty e : TypeId} {i : TypeInfo} {z : Value} (ht : P.underlying t = some (.slice e)) (h2 : noInt P t2 = true) (hi : P.info? e = some i) (hz : i.zero = some z) {base : Option Addr} {n c k : Nat} {olds news : List Value} {y' : Value}
    (hfo : (Builtin.firstCells i.size n (.slice base n c)).run P w.drew = .ok olds.toArray w.drew) (hy : (Builtin.lenOf y').run P w = .ok k w) (hfy : (Builtin.firstCells i.size k y').run P w.drew = .ok news.toArray w.drew)
    (hg : c < n + k) (hm : n + k ≤ maxLen) (hb : (n + k) * i.bytes ≤ 140737488355328) :
    (Builtin.append_ #[t, t2] ty #[.slice base n c, y']).run P w =
      .ok (.slice (some ⟨w.heap.size, 0, none⟩) (n + k) (grownCap w (n + k) c e)) (w.drew.alloc (.cells (olds.toArray ++ news.toArray ++ Builtin.zeroCells z.cells (grownCap w (n + k) c e - (n + k))) e)) := by
  unfold maxLen at hm
  have hn : ¬ (n + k ≤ c) := by omega
  have h63' : ¬ (9223372036854775807 < ((n : Int) + (k : Int))) := by omega
  have h48' : ¬ (281474976710656 < Builtin.nextslicecap (n + k) c * i.bytes) := by have := growslice_fits hg hb; omega
  have hfo' : (Builtin.firstCells i.size n (.slice base n c)).run P { w with drawn := w.drawn + 1 } = .ok olds.toArray { w with drawn := w.drawn + 1 } := hfo
  have hfy' : (Builtin.firstCells i.size k y').run P { w with drawn := w.drawn + 1 } = .ok news.toArray { w with drawn := w.drawn + 1 } := hfy
  rw [app_tail ht h2 hi]
  simp [appTail, typeInfo, zeroValue, hi, hz, hy, hn, h63', h48', Question.forced, hfo, hfy, newRow, grownCap]
  rw [← Array.append_assoc]
  simp

theorem run_app_fit' {t t2 ty e : TypeId} {i : TypeInfo} (ht : P.underlying t = some (.slice e)) (h2 : noInt P t2 = true) (hi : P.info? e = some i) {a : Addr} {n c k : Nat} {news : List Value} {y' : Value} {w' : World}
    (hy : (Builtin.lenOf y').run P w = .ok k w) (hfy : (Builtin.firstCells i.size k y').run P w = .ok news.toArray w) (hg : n + k ≤ c) (hst : (storeCells (a.add (n * i.size)) news).run P w = .ok () w') :
    (Builtin.append_ #[t, t2] ty #[.slice (some a) n c, y']).run P w = .ok (.slice (some a) (n + k) c) w' := by
  rw [app_tail ht h2 hi]
  simp [appTail, hy, hg, hfy, hst]

theorem run_app_none' {t t2 ty e : TypeId} {i : TypeInfo} (ht : P.underlying t = some (.slice e)) (h2 : noInt P t2 = true) (hi : P.info? e = some i) {y' : Value} {news : List Value}
    (hy : (Builtin.lenOf y').run P w = .ok 0 w) (hfy : (Builtin.firstCells i.size 0 y').run P w = .ok news.toArray w) :
    (Builtin.append_ #[t, t2] ty #[.slice none 0 0, y']).run P w = .ok (.slice none 0 0) w := by
  rw [app_tail ht h2 hi]
  simp [appTail, hy, hfy]


theorem row_of_own {i o n : Nat} {cs : List Value} {e : TypeId} (h : m.get i = .own cs e) (hl : o + n ≤ cs.length) : m.row i o n = some ((cs.drop o).take n) := by
  simp [Mem.row, h, Ent.cells?, hl]

theorem zeroCells_size (z : Array Value) (n : Nat) : (Builtin.zeroCells z n).size = n * z.size := by simp [Builtin.zeroCells]

set_option maxHeartbeats 1000000 in
theorem snd_app {N : Nat} {ts : Fr} {a : Act} (ha : AR G N ts a) (hs : St P w0 G m w) {t t2 ty e : TypeId} {i : TypeInfo} {z : Value} (ht : P.underlying t = some (.slice e)) (h2 : noInt P t2 = true) (hi : P.info? e = some i) (hz : i.zero = some z) (hzs : z.cells.size = i.size)
    {x y : Operand} (hx : okX P N x = true) (hy : okX P N y = true) {v : Value} {m' : Mem} (h : dE ts m (.app e i.size i.bytes x y) = some (v, m')) :
    ∃ v' w', (Builtin.append_ #[t, t2] ty #[a.eval x, a.eval y]).run P w = .ok v' w' ∧ Leaves P w0 w G v m' v' w' := by
  have vx := ev_VR ha hs x hx
  have vy := ev_VR ha hs y hy
  simp only [dE] at h
  split at h
  · cases h
  rename_i ys hys
  obtain ⟨ys', hfc, hyr, hlo, hyl⟩ := snd_elems hs vy hys
  generalize a.eval x = X at *
  generalize a.eval y = Y at *
  generalize hk : lenV (ev ts y) = k at *
  split at h
  · rename_i hk0
    subst hk0
    split at h
    · rename_i q n c hx'
      rw [hx'] at vx
      simp at h
      obtain ⟨rfl, rfl⟩ := h
      obtain rfl : ys = [] := by simpa using hyl
      cases hyr
      cases vx with
      | nils => exact ⟨_, w, run_app_none' ht h2 hi (hlo w) (hfc w rfl), G, Loc.le_refl G, .nils, hs⟩
      | sl i' o B b S _ cp _ hg hn hc hS =>
        exact ⟨_, w, run_app_fit' ht h2 hi (hlo w) (hfc w rfl) (by omega) (by rfl), G, Loc.le_refl G, .sl _ _ _ _ _ _ _ _ hg hn hc hS, hs⟩
      | empty ad cp hcp =>
        exact ⟨_, w, run_app_fit' ht h2 hi (hlo w) (hfc w rfl) (by omega) (by rfl), G, Loc.le_refl G, .empty _ _ hcp, hs⟩
    · cases h
  · rename_i hk0
    split at h
    case isFalse => cases h
    rename_i hcond
    obtain ⟨h1c, hb, hm⟩ := hcond
    have grow : ∀ (base : Option Addr) (n c : Nat) (olds olds' : List Value) (m1 : Mem), lenV (ev ts x) = n → St P w0 G m1 w → m1.next = m.next → VRs G olds olds' → (Builtin.firstCells i.size n (.slice base n c)).run P w.drew = .ok olds'.toArray w.drew → olds.length = n * i.size →
        c < n + k → ∃ v' w', (Builtin.append_ #[t, t2] ty #[.slice base n c, Y]).run P w = .ok v' w' ∧ Leaves P w0 w G (.slice (some ⟨m.next, 0, none⟩) (n + k) i.size) (m1.push (.own (olds ++ ys) e)) v' w' := by
      intro base n c olds olds' m1 hxn hs1 hnx hor hfo hol hg
      rw [hxn] at hb hm
      have hr := run_app_grow' (ty := ty) ht h2 hi hz hfo (hlo w) (hfc w.drew rfl) hg hm hb
      refine ⟨_, _, hr, ?_⟩
      have hs2 : St P w0 G m1 w.drew := hs1.same rfl rfl rfl rfl
      have hn := own_new hs2 (e := e) (cs' := olds' ++ ys') (extra := (Builtin.zeroCells z.cells (grownCap w (n + k) c e - (n + k))).toList) (0, 0) (open00 _) (hor.append hyr)
      refine ⟨_, hn.1, ?_, ?_⟩
      · have hcap := grownCap_ge w (n + k) c e
        have hcm := grownCap_le_maxLen w (n + k) c e hm
        refine .sl _ _ _ _ ((olds' ++ ys' ++ (Builtin.zeroCells z.cells (grownCap w (n + k) c e - (n + k))).toList).length) _ _ _ (by simp [hnx]) hcap hcm ?_
        have e1 : olds'.length = n * i.size := by rw [hor.length, hol]
        have e2 : ys'.length = k * i.size := by rw [hyr.length, hyl]
        have e3 : (Builtin.zeroCells z.cells (grownCap w (n + k) c e - (n + k))).size = (grownCap w (n + k) c e - (n + k)) * i.size := by rw [zeroCells_size, hzs]
        simp only [List.length_append, Array.length_toList, e1, e2, e3, ← Nat.add_mul]
        rw [show n + k + (grownCap w (n + k) c e - (n + k)) = grownCap w (n + k) c e from by omega]
        omega
      · have e0 : (⟨olds' ++ ys' ++ (Builtin.zeroCells z.cells (grownCap w (n + k) c e - (n + k))).toList⟩ : Array Value) = olds'.toArray ++ ys'.toArray ++ Builtin.zeroCells z.cells (grownCap w (n + k) c e - (n + k)) := by
          apply Array.ext'
          simp
        have h3 := hn.2
        rw [e0] at h3
        exact h3
    split at h
    · rename_i n c hx'
      rw [hx'] at vx
      simp at h
      obtain ⟨rfl, rfl⟩ := h
      cases vx
      obtain ⟨v', w', h3, h4⟩ := grow none 0 0 [] [] m (by rw [hx']; rfl) hs rfl .nil (by simp [Builtin.firstCells]) (by simp) (by omega)
      refine ⟨v', w', h3, ?_⟩
      simpa using h4
    · rename_i j o n zz hx'
      rw [hx'] at vx
      split at h
      case h_2 => cases h
      rename_i cs e' hown
      split at h
      case isFalse => cases h
      rename_i hcond2
      obtain ⟨hle, hzz, he', hom⟩ := hcond2
      subst hzz he'
      simp at h
      obtain ⟨rfl, rfl⟩ := h
      cases vx with
      | sl _ _ B b S _ cp _ hg hn hc hS =>
        have hmine : (m.get j).mine = true := by rw [hown]; rfl
        by_cases hfit : n + k ≤ cp
        · obtain ⟨h0, c, fz, hw, hcS, hfz, hcc, hsz⟩ := own_get hs hg hown
          have hyl' : ys'.length = k * i.size := by rw [hyr.length, hyl]
          have hroom : n * i.size + k * i.size ≤ cp * i.size := by rw [← Nat.add_mul]; exact Nat.mul_le_mul_right _ hfit
          have h1' := hyr.oneC h1c
          have hrun := run_storeCells_cells (P := P) B (b + o + n * i.size) ys' 0 w (fun q hq => by rw [Nat.add_zero]; exact cells_some hw _ (by omega)) (fun q hq => by rw [Nat.add_zero]; exact cells_frozen hw hfz _ (by omega)) h1'
          obtain ⟨s1, s2, s3, s4, s5, s6⟩ := setCells_spec B ys' (b + o + n * i.size) w c _ fz hw (by omega)
          have hsame : (⟨putAt c.toList (b + o + n * i.size) ys'⟩ : Array Value).size = c.size := by
            have := putAt_length c.toList (b + o + n * i.size) ys' (by simpa using (by omega : b + o + n * i.size + ys'.length ≤ c.size))
            simpa using this
          have hE : ER w0 (w.setCells B (b + o + n * i.size) ys') (fun q => if q = m.next then some (B, b + o, S) else G q) B (b + o) S (.own ((cs.drop o).take (n * i.size) ++ ys) e') := by
            refine ⟨h0, _, fz, s1, by rw [hsame]; exact hcS, by rw [hsame]; exact hfz, fun q v hq => ?_⟩
            have hleG : Loc.le G (fun q => if q = m.next then some (B, b + o, S) else G q) := by
              intro q x hx
              have := hs.dom q x hx
              show (if q = m.next then some (B, b + o, S) else G q) = some x
              rw [if_neg (by omega)]; exact hx
            have hq2 : ((⟨putAt c.toList (b + o + n * i.size) ys'⟩ : Array Value))[b + o + q]? = if b + o + n * i.size ≤ b + o + q ∧ b + o + q < b + o + n * i.size + ys'.length then ys'[b + o + q - (b + o + n * i.size)]? else c[b + o + q]? := by
              have := putAt_get c.toList (b + o + n * i.size) ys' (by simpa using (by omega : b + o + n * i.size + ys'.length ≤ c.size)) (b + o + q)
              simpa using this
            rw [hq2]
            have htl : ((cs.drop o).take (n * i.size)).length = n * i.size := by simp; omega
            rw [List.getElem?_append, htl] at hq
            by_cases hlt : q < n * i.size
            · rw [if_pos hlt, List.getElem?_take, if_pos hlt, List.getElem?_drop] at hq
              rw [if_neg (by omega)]
              obtain ⟨v', a1, a2⟩ := hcc _ _ hq
              exact ⟨v', by rw [← a1]; congr 1; omega, a2.mono hleG⟩
            · rw [if_neg hlt] at hq
              have hql : q - n * i.size < ys.length := (List.getElem?_eq_some_iff.1 hq).1
              rw [if_pos (by omega), show b + o + q - (b + o + n * i.size) = q - n * i.size from by omega]
              obtain ⟨v', a1, a2⟩ := hyr.get _ _ hq
              exact ⟨v', a1, a2.mono hleG⟩
          obtain ⟨g1, g2⟩ := hs.move hmine hg s4 s5 s6 s3 s2 hE fun cs1 e1 he1 => by
            cases he1
            have h1 := hs.ali _ _ _ _ _ _ hown hg
            have h2 : P.cellsOf e' = i.size := by simp [Program.cellsOf, hi]
            rw [h2] at h1 ⊢
            rw [Nat.add_mod, h1, hom]; simp
          refine ⟨_, _, run_app_fit' ht h2 hi (hlo w) (hfc w rfl) hfit (by rw [Addr.add_lit]; exact hrun), _, g1, ?_, g2⟩
          exact VR.sl m.next 0 B (b + o) S (n + k) cp i.size (by simp) hfit hc (by simpa using hS)
        · have hrow := row_of_own (n := n * i.size) hown hle
          obtain ⟨cs', r1, r2, r3⟩ := hs.row hg hrow
          have hl := run_loadCells_list (P := P) (w := w.drew) ⟨B, b + o, none⟩ cs' (fun q v hq => by have := r3 q v hq; simpa using this)
          rw [r1] at hl
          exact grow (some ⟨B, b + o, none⟩) n cp _ cs' (m.set j .dead) (by rw [hx']; rfl) (hs.kill j) rfl r2 (by simp [Builtin.firstCells, hl]) (by simp; omega) (by omega)
    · cases h
end
end Go.Proofs.YtgfkjldohilmkaaDoor.Ab
