/- Operations that look and reckon: each by its abstract form, and that the real one yields what stands for what that yields. -/
import Derived.Test.YtgfkjldohilmkaaDoorAb2
import Derived.Laws.BytesString
set_option linter.unusedVariables false
set_option linter.unusedSimpArgs false
namespace Go.Proofs.YtgfkjldohilmkaaDoor.Ab
open Go Go.RowKit

inductive RO where
  | mv (x : Operand)
  | pick (c a b : Operand)
  | ld (x : Operand)
  | ldn (n : Nat) (x : Operand)
  | nck (x : Operand)
  | bin (op : BinOp) (x y : Operand)
  | eq (neg : Bool) (e : EqT) (x y : Operand)
  | not (x : Operand)
  | neg (x : Operand)
  | com (x : Operand)
  | cvi (k : IntKind) (x : Operand)
  | cvs (x : Operand)
  | fa (off : Nat) (x : Operand)
  | fld (off n : Nat) (x : Operand)
  | ia (sz : Nat) (x i : Operand)
  | iaa (len sz : Nat) (x i : Operand)
  | ixs (x i : Operand)
  | ixa (len sz n : Nat) (x i : Operand)
  | sls (x : Operand) (lo hi : Option Operand)
  | sl (sz : Nat) (x : Operand) (lo hi : Option Operand)
  | sla (len sz : Nat) (x : Operand) (lo hi : Option Operand)
  | lens (x : Operand)
  | lenl (x : Operand)
  | lenc (n : Nat)
  | mki (t : TypeId) (x : Operand)
  | mkf (fn : Fn) (first captured : List Operand)
  | ext (i : Nat) (x : Operand)
  | bld (zero : List Value) (parts : List (Nat × Nat × Operand))
  | mn (x y : Operand)
  | mx (x y : Operand)
  | b2s (x : Operand)
  | cvp (x : Operand)
  | cvu (u sz : Nat) (x : Operand)
  | usd (x : Operand)
  | capn (x : Operand)
  | i2s (x : Operand)
  | tas (t : TypeId) (zero : Value) (ok : Bool) (x : Operand)
  | lku (str ok : Bool) (zero : Value) (x i : Operand)
  | ieq (neg : Bool) (ts : List TypeId) (x y : Operand)

def bnd (ts : Fr) (y : Option Operand) (d lim : Nat) : Option Nat := match y with
  | none => some d
  | some y => match ev ts y with
    | .int _ j => if 0 ≤ j ∧ j ≤ (lim : Int) then some j.toNat else none
    | _ => none

/-- The cells of a value. -/
def cellsV : Value → List Value
  | .agg cs => cs.toList
  | v => [v]
def putAt (cs : List Value) (off : Nat) (vs : List Value) : List Value := cs.take off ++ vs ++ cs.drop (off + vs.length)
def fillD (ts : Fr) : List (Nat × Nat × Operand) → List Value → Option (List Value)
  | [], cs => some cs
  | (off, n, x) :: rest, cs =>
    if (cellsV (ev ts x)).length = n ∧ off + n ≤ cs.length then fillD ts rest (putAt cs off (cellsV (ev ts x))) else none

def bytesOf : List Value → Option (List UInt8)
  | [] => some []
  | .int .u8 n :: rest => (bytesOf rest).map (UInt8.ofNat n.toNat :: ·)
  | _ => none

mutual
def dEq : EqT → Value → Value → Option Bool
  | .bool, .bool a, .bool b => some (a == b)
  | .int, .int k a, .int k' b => if k = k' then some (a == b) else none
  | .str, .string a, .string b => some (a.data.toList == b.data.toList)
  | .ptr, .pointer none, .pointer b => some b.isNone
  | .ptr, .pointer (some _), .pointer none => some false
  | .ptr, .pointer (some a), .pointer (some b) => if a = b then some true else none
  | .slice, .slice none _ _, .slice b _ _ => some b.isNone
  | .slice, .slice (some _) _ _, .slice none _ _ => some false
  | .map, .map none, .map b => some b.isNone
  | .map, .map (some _), .map none => some false
  | .func, .nilFunc, .nilFunc => some true
  | .func, .nilFunc, .func _ _ _ => some false
  | .func, .func _ _ _, .nilFunc => some false
  | .iface _, .nilIface, .nilIface => some true
  | .iface _, .nilIface, .iface _ _ => some false
  | .iface _, .iface _ _, .nilIface => some false
  | .iface ts, .iface t (.int k a), .iface t' (.int k' b) => if t = t' then (if ts.contains t && k = k' then some (a == b) else none) else some false
  | .iface _, .iface t (.agg _), .iface t' (.int _ _) => if t = t' then none else some false
  | .iface _, .iface t (.int _ _), .iface t' (.agg _) => if t = t' then none else some false
  | .recd ps, .agg xs, .agg ys => dEqs ps xs.toList ys.toList
  | _, _, _ => none
def dEqs : List (Nat × Nat × EqT) → List Value → List Value → Option Bool
  | [], _, _ => some true
  | (off, n, e) :: rest, xs, ys => match pickCells xs off n, pickCells ys off n with
    | some x, some y => match dEq e x y with
      | some true => dEqs rest xs ys
      | some false => some false
      | none => none
    | _, _ => none
end

def slD (sz : Nat) (ts : Fr) (lo hi : Option Operand) (i o n : Nat) : Option Value :=
  match bnd ts hi n n with
  | none => none
  | some h => match bnd ts lo 0 h with
    | none => none
    | some l => if l = 0 then some (.slice (some ⟨i, o, none⟩) h sz) else if l = h then some (.slice (some ⟨0, 0, some 0⟩) 0 0) else some (.slice (some ⟨i, o + l * sz, none⟩) (h - l) sz)

/-- The same key? -/
def keyIs (str : Bool) : Value → Value → Option Bool
  | .int k a, .int k' b => if str = false ∧ k = k' then some (a == b) else none
  | .string a, .string b => if str = true then some (a.data.toList == b.data.toList) else none
  | _, _ => none
def mapFind (str : Bool) (k : Value) : List MapEntry → Nat → Option (Option (Nat × Value))
  | [], _ => some none
  | e :: es, i => match keyIs str k e.key with
    | some true => some (some (i, e.val))
    | some false => mapFind str k es (i + 1)
    | none => none

def bothNil : Value → Value → Bool
  | .nilIface, .nilIface => true
  | _, _ => false
@[simp] theorem bothNil_l (t : TypeId) (v : Value) : bothNil .nilIface (.iface t v) = false := rfl
@[simp] theorem bothNil_r (t : TypeId) (v x : Value) : bothNil (.iface t v) x = false := rfl

def dR (ts : Fr) (m : Mem) : RO → Option Value
  | .mv x => some (ev ts x)
  | .pick c a b => match ev ts c with
    | .bool true => some (ev ts a)
    | .bool false => some (ev ts b)
    | _ => none
  | .ld x => match ev ts x with
    | .pointer (some ⟨i, o, none⟩) => m.cell i o
    | _ => none
  | .ldn n x => match ev ts x with
    | .pointer (some ⟨i, o, none⟩) => match m.row i o n with
      | some cs => some (.agg ⟨cs⟩)
      | none => none
    | _ => none
  | .nck x => match ev ts x with
    | .pointer (some a) => some (.pointer (some a))
    | .iface t v => some (.iface t v)
    | .func (.func f) p q => some (.func (.func f) p q)
    | _ => none
  | .bin op x y => dBin op (ev ts x) (ev ts y)
  | .eq neg e x y => match dEq e (ev ts x) (ev ts y) with
    | some b => some (.bool (if neg then !b else b))
    | none => none
  | .not x => match ev ts x with
    | .bool b => some (.bool (!b))
    | _ => none
  | .neg x => match ev ts x with
    | .int k n => some (.int k (k.wrap (0 - n)))
    | _ => none
  | .com x => match ev ts x with
    | .int k n => some (.int k (k.wrap ((BitVec.ofInt k.bits (if k.signed then -1 else k.max) ^^^ BitVec.ofInt k.bits n).toNat : Nat)))
    | _ => none
  | .cvi k x => match ev ts x with
    | .int _ n => some (.int k (k.wrap n))
    | _ => none
  | .cvs x => match ev ts x with
    | .string s => some (.string s)
    | _ => none
  | .fa off x => match ev ts x with
    | .pointer (some ⟨i, o, none⟩) => some (.pointer (some ⟨i, o + off, none⟩))
    | _ => none
  | .fld off n x => match ev ts x with
    | .agg cs => pickCells cs.toList off n
    | _ => none
  | .ia sz x i => match ev ts x, ev ts i with
    | .slice (some ⟨b, o, none⟩) n _, .int _ j => if 0 ≤ j ∧ j < (n : Int) then some (.pointer (some ⟨b, o + j.toNat * sz, none⟩)) else none
    | _, _ => none
  | .iaa len sz x i => match ev ts x, ev ts i with
    | .pointer (some ⟨b, o, none⟩), .int _ j => if 0 ≤ j ∧ j < (len : Int) then some (.pointer (some ⟨b, o + j.toNat * sz, none⟩)) else none
    | _, _ => none
  | .ixs x i => match ev ts x, ev ts i with
    | .string s, .int _ j => match (if 0 ≤ j then s[j.toNat]? else none) with
      | some b => some (.int .u8 b.toNat)
      | none => none
    | _, _ => none
  | .ixa len sz n x i => match ev ts x, ev ts i with
    | .agg cs, .int _ j => if 0 ≤ j ∧ j < (len : Int) then pickCells cs.toList (j.toNat * sz) n else none
    | _, _ => none
  | .sls x lo hi => match ev ts x with
    | .string s => match bnd ts hi s.size s.size with
      | none => none
      | some h => match bnd ts lo 0 h with
        | none => none
        | some l => some (.string (s.extract l h))
    | _ => none
  | .sl sz x lo hi => match ev ts x with
    | .slice none _ _ => match bnd ts hi 0 0 with
      | none => none
      | some h => match bnd ts lo 0 h with
        | none => none
        | some _ => some (.slice none 0 0)
    | .slice (some ⟨_, _, some _⟩) _ _ => match bnd ts hi 0 0 with
      | none => none
      | some h => match bnd ts lo 0 h with
        | none => none
        | some _ => some (.slice (some ⟨0, 0, some 0⟩) 0 0)
    | .slice (some ⟨i, o, none⟩) n z => if z = sz then slD sz ts lo hi i o n else none
    | _ => none
  | .sla len sz x lo hi => match ev ts x with
    | .pointer (some ⟨i, o, none⟩) => match m.get i with
      | .own cs _ => if o + len * sz ≤ cs.length ∧ 0 < len * sz then slD sz ts lo hi i o len else none
      | _ => none
    | _ => none
  | .lens x => match ev ts x with
    | .string s => some (.int .i64 s.size)
    | _ => none
  | .lenl x => match ev ts x with
    | .slice _ n _ => some (.int .i64 n)
    | _ => none
  | .lenc n => some (.int .i64 n)
  | .mki t x => some (.iface t (ev ts x))
  | .mkf fn f c => some (.func fn ⟨f.map (ev ts)⟩ ⟨c.map (ev ts)⟩)
  | .ext i x => match ev ts x with
    | .tuple vs => vs.toList[i]?
    | _ => none
  | .bld zero parts => match fillD ts parts zero with
    | some cs => some (.agg ⟨cs⟩)
    | none => none
  | .mn x y => match ev ts x, ev ts y with
    | .int k a, .int _ b => some (.int k (if b < a then b else a))
    | _, _ => none
  | .mx x y => match ev ts x, ev ts y with
    | .int k a, .int _ b => some (.int k (if b > a then b else a))
    | _, _ => none
  | .b2s x => match ev ts x with
    | .slice none _ _ => some (.string .empty)
    | .slice (some ⟨_, _, some _⟩) _ _ => some (.string .empty)
    | .slice (some ⟨i, o, none⟩) n _ => match m.row i o n with
      | some cs => match bytesOf cs with
        | some bs => some (.string ⟨bs.toArray⟩)
        | none => none
      | none => none
    | _ => none
  | .cvp x => match ev ts x with
    | .pointer none => some (.pointer none)
    | .pointer (some ⟨i, o, none⟩) => match m.get i with
      | .own cs _ => if o < cs.length then some (.pointer (some ⟨i, o, none⟩)) else none
      | _ => none
    | _ => none
  | .cvu u sz x => match ev ts x with
    | .pointer none => some (.pointer none)
    | .pointer (some ⟨i, o, none⟩) => match m.get i with
      | .own cs e => if e = u ∧ o % sz = 0 ∧ o + sz ≤ cs.length then some (.pointer (some ⟨i, o, none⟩)) else none
      | _ => none
    | _ => none
  | .usd x => match ev ts x with
    | .slice none _ _ => some (.pointer none)
    | .slice (some ⟨i, o, none⟩) n _ => if 0 < n then some (.pointer (some ⟨i, o, none⟩)) else none
    | _ => none
  | .capn x => match ev ts x with
    | .slice none _ _ => some (.int .i64 0)
    | _ => none
  | .i2s x => match ev ts x with
    | .int _ n => some (.string (Utf8.encode n))
    | _ => none
  | .tas t z ok x => match ev ts x with
    | .nilIface => if ok = true then some (.tuple ⟨[z, .bool false]⟩) else none
    | .iface d v => if d = t then some (if ok = true then .tuple ⟨[v, .bool true]⟩ else v) else if ok = true then some (.tuple ⟨[z, .bool false]⟩) else none
    | _ => none
  | .lku str ok z x i => match ev ts x with
    | .map none => some (if ok = true then .tuple ⟨[z, .bool false]⟩ else z)
    | .map (some r) => match m.get r with
      | .map es _ => match mapFind str (ev ts i) es 0 with
        | some (some (_, v)) => some (if ok = true then .tuple ⟨[v, .bool true]⟩ else v)
        | some none => some (if ok = true then .tuple ⟨[z, .bool false]⟩ else z)
        | none => none
      | _ => none
    | _ => none
  | .ieq neg tt x y => if bothNil (ev ts x) (ev ts y) = true then none else match dEq (.iface tt) (ev ts x) (ev ts y) with
    | some b => some (.bool (if neg then !b else b))
    | none => none

/-- Which of an operation's parts are aggregates: of how many cells; 0: one value. -/
def aggN (P : Program) (t : TypeId) : Option Nat := match P.underlying t, P.info? t with
  | some (.struct _), some i => if i.size = 0 then none else some i.size
  | some (.array _ _), some i => if i.size = 0 then none else some i.size
  | some _, some i => if i.size = 1 then some 0 else none
  | _, _ => none

/-- What an aggregate's size, or a plain value's, means to the model. -/
theorem aggN_spec {P : Program} {t : TypeId} {n : Nat} (h : aggN P t = some n) :
    ∃ i, P.info? t = some i ∧ (∀ w, (isAgg t).run P w = .ok (decide (n ≠ 0)) w) ∧ i.size = (if n = 0 then 1 else n) := by
  unfold aggN at h
  split at h
  · rename_i fs i hu hi
    split at h
    · cases h
    · rename_i hz
      simp at h
      refine ⟨i, by assumption, fun w => by simp [isAgg, run_underlying ‹P.underlying t = _›]; omega, by simp [← h, hz]⟩
  · rename_i l e i hu hi
    split at h
    · cases h
    · rename_i hz
      simp at h
      refine ⟨i, by assumption, fun w => by simp [isAgg, run_underlying ‹P.underlying t = _›]; omega, by simp [← h, hz]⟩
  · rename_i d i h1 h2 hu hi
    split at h
    · rename_i hs
      simp at h
      subst h
      refine ⟨i, by assumption, fun w => ?_, by simp [hs]⟩
      have hd := ‹P.underlying t = some d›
      cases d <;> first | (simp [isAgg, run_underlying hd]; done) | (exact (h1 _ rfl).elim) | (exact (h2 _ _ rfl).elim)
    · cases h
  · cases h

theorem run_sizeOf {P : Program} {t : TypeId} {i : TypeInfo} (h : P.info? t = some i) (w : World) : (sizeOf t).run P w = .ok i.size w := by
  simp [sizeOf, typeInfo, h]

section
variable {P : Program} {w0 w : World} {G : Loc} {m : Mem}

theorem snd_ld {t : TypeId} (ht : aggN P t = some 0) (hs : St P w0 G m w) {i o : Nat} {v p : Value} (hp : VR G (.pointer (some ⟨i, o, none⟩)) p) (hc : m.cell i o = some v) :
    ∃ v', (Instr.loadAt t p).run P w = .ok v' w ∧ VR G v v' := by
  cases hp with
  | ptr _ _ B b S hg =>
    obtain ⟨v', h1, h2⟩ := hs.cell hg hc
    obtain ⟨_, _, ha, _⟩ := aggN_spec ht
    exact ⟨v', by simp [Instr.loadAt, Instr.sureAddr, loadVar, ha, h1], h2⟩

theorem snd_ldn {t : TypeId} {n : Nat} (hn : n ≠ 0) (ht : aggN P t = some n) (hs : St P w0 G m w) {i o : Nat} {cs : List Value} {p : Value} (hp : VR G (.pointer (some ⟨i, o, none⟩)) p) (hc : m.row i o n = some cs) :
    ∃ v', (Instr.loadAt t p).run P w = .ok v' w ∧ VR G (.agg ⟨cs⟩) v' := by
  cases hp with
  | ptr _ _ B b S hg =>
    obtain ⟨cs', h1, h2, h3⟩ := hs.row hg hc
    obtain ⟨i, hi, ha, hz⟩ := aggN_spec ht
    refine ⟨.agg ⟨cs'⟩, ?_, .agg _ _ h2⟩
    have hl := run_loadCells_list (P := P) (w := w) ⟨B, b + o, none⟩ cs' h3
    rw [h1] at hl
    simp [hn] at hz
    simp [Instr.loadAt, Instr.sureAddr, loadVar, ha, hn, run_sizeOf hi, hz, hl]

theorem snd_fa {t : TypeId} {fs : Array Field} {f : Field} {k : Nat} {fi : TypeInfo} (hu : P.underlying t = some (.struct fs)) (hf : fs[k]? = some f) (hfi : P.info? f.type = some fi) (hz : fi.size ≠ 0)
    {i o : Nat} {p : Value} (hp : VR G (.pointer (some ⟨i, o, none⟩)) p) :
    ∃ v', (Instr.fieldAt t p k).run P w = .ok v' w ∧ VR G (.pointer (some ⟨i, o + f.offset, none⟩)) v' := by
  cases hp with
  | ptr _ _ B b S hg =>
    refine ⟨.pointer (some ⟨B, b + (o + f.offset), none⟩), ?_, .ptr _ _ _ _ _ hg⟩
    simp [Instr.fieldAt, run_underlying hu, hf, Instr.sureAddr, fieldPlace, run_sizeOf hfi, hz, Addr.add_lit, Nat.add_assoc]

theorem VRs.pick {cs cs' : List Value} (h : VRs G cs cs') {off n : Nat} {v : Value} (hv : pickCells cs off n = some v) : ∃ v', pickCells cs' off n = some v' ∧ VR G v v' := by
  unfold pickCells at hv ⊢
  split at hv
  · rename_i hn
    obtain ⟨v', h1, h2⟩ := h.get _ _ hv
    exact ⟨v', by simp [hn, h1], h2⟩
  · rename_i hn
    split at hv
    · rename_i hle
      simp at hv
      subst hv
      exact ⟨.agg ⟨(cs'.drop off).take n⟩, by simp [hn, h.length, hle], .agg _ _ ((h.drop off).take n)⟩
    · cases hv

theorem extract_list (cs : List Value) (off n : Nat) : (List.toArray cs).extract off (off + n) = ⟨(cs.drop off).take n⟩ := by
  simp

theorem snd_part {t : TypeId} {n : Nat} (ht : aggN P t = some n) {cs : List Value} {off : Nat} {v : Value} (hv : pickCells cs off n = some v) : (part t ⟨cs⟩ off).run P w = .ok v w := by
  obtain ⟨i, hi, ha, hz⟩ := aggN_spec ht
  unfold pickCells at hv
  split at hv
  · rename_i hn
    subst hn
    simp [part, ha, hv]
  · rename_i hn
    split at hv
    · rename_i hle
      simp at hv
      subst hv
      simp [hn] at hz
      simp [part, ha, hn, run_sizeOf hi, hz]
    · cases hv

theorem snd_fld {t : TypeId} {fs : Array Field} {f : Field} {k n : Nat} (hu : P.underlying t = some (.struct fs)) (hf : fs[k]? = some f) (hn : aggN P f.type = some n)
    {cs : Array Value} {v x : Value} (hx : VR G (.agg cs) x) (hv : pickCells cs.toList f.offset n = some v) :
    ∃ v', (Instr.field t x k).run P w = .ok v' w ∧ VR G v v' := by
  cases hx with
  | agg c c' h =>
    obtain ⟨v', h1, h2⟩ := h.pick hv
    exact ⟨v', by simp [Instr.field, run_underlying hu, hf, asAgg, snd_part hn h1], h2⟩

theorem snd_ia {t e : TypeId} {ei : TypeInfo} (hu : P.underlying t = some (.slice e)) (hi : P.info? e = some ei) {b o n n' : Nat} {k : IntKind} {j : Int} {x y : Value}
    (hx : VR G (.slice (some ⟨b, o, none⟩) n n') x) (hy : VR G (.int k j) y) (h0 : 0 ≤ j) (h1 : j < (n : Int)) :
    ∃ v', (Instr.indexAt t x y).run P w = .ok v' w ∧ VR G (.pointer (some ⟨b, o + j.toNat * ei.size, none⟩)) v' := by
  cases hy
  cases hx with
  | sl _ _ B c S _ cp z hg hn hc hS =>
    refine ⟨.pointer (some ⟨B, c + (o + j.toNat * ei.size), none⟩), ?_, .ptr _ _ _ _ _ hg⟩
    simp [Instr.indexAt, asIntOf, run_underlying hu, h0, h1, run_sizeOf hi, Addr.add_lit, Nat.add_assoc]

theorem snd_iaa {t e : TypeId} {ei : TypeInfo} {len : Nat} (hu : P.underlying t = some (.array len e)) (hi : P.info? e = some ei) {b o : Nat} {k : IntKind} {j : Int} {x y : Value}
    (hx : VR G (.pointer (some ⟨b, o, none⟩)) x) (hy : VR G (.int k j) y) (h0 : 0 ≤ j) (h1 : j < (len : Int)) :
    ∃ v', (Instr.indexAt t x y).run P w = .ok v' w ∧ VR G (.pointer (some ⟨b, o + j.toNat * ei.size, none⟩)) v' := by
  cases hy
  cases hx with
  | ptr _ _ B c S hg =>
    refine ⟨.pointer (some ⟨B, c + (o + j.toNat * ei.size), none⟩), ?_, .ptr _ _ _ _ _ hg⟩
    simp [Instr.indexAt, Instr.sureAddr, asIntOf, run_underlying hu, h0, h1, run_sizeOf hi, Addr.add_lit, Nat.add_assoc]

theorem snd_ixs {t : TypeId} (hu : P.underlying t = some .string) {s : ByteArray} {k : IntKind} {j : Int} {x y v : Value} (hx : VR G (.string s) x) (hy : VR G (.int k j) y)
    (hv : (match (if 0 ≤ j then s[j.toNat]? else none) with | some b => some (Value.int .u8 b.toNat) | none => none) = some v) :
    ∃ v', (Instr.index t x y).run P w = .ok v' w ∧ VR G v v' := by
  cases hy
  cases hx
  split at hv
  · rename_i b hb
    simp at hv
    subst hv
    exact ⟨_, by simp [Instr.index, asIntOf, run_underlying hu, hb], .int _ _⟩
  · cases hv

theorem snd_ixa {t e : TypeId} {len n : Nat} {ei : TypeInfo} (hu : P.underlying t = some (.array len e)) (hn : aggN P e = some n) (hi : P.info? e = some ei) {cs : Array Value} {k : IntKind} {j : Int} {x y v : Value} (hx : VR G (.agg cs) x) (hy : VR G (.int k j) y)
    (h0 : 0 ≤ j) (h1 : j < (len : Int)) (hv : pickCells cs.toList (j.toNat * ei.size) n = some v) :
    ∃ v', (Instr.index t x y).run P w = .ok v' w ∧ VR G v v' := by
  cases hy
  cases hx with
  | agg c c' h =>
    obtain ⟨v', h2, h3⟩ := h.pick hv
    exact ⟨v', by simp [Instr.index, asIntOf, run_underlying hu, h0, h1, run_sizeOf hi, snd_part hn h2], h3⟩

theorem bnd_run {N : Nat} {ts : Fr} {a : Act} (ha : AR G N ts a) (hs : St P w0 G m w) {y : Operand} (hy : okX P N y = true) {d lim lim' r : Nat} (h : bnd ts (some y) d lim = some r) (hl : lim ≤ lim') (code : BoundsCode) :
    (Instr.sliceBound (a.eval y) lim' code).run P w = .ok r w ∧ r ≤ lim := by
  have hv := ev_VR ha hs y hy
  simp only [bnd] at h
  split at h
  · rename_i k j he
    rw [he] at hv
    split at h
    · rename_i hc
      simp at h
      subst h
      generalize a.eval y = z at hv
      cases hv
      obtain ⟨c1, c2⟩ := hc
      exact ⟨by simp [Instr.sliceBound, asIntOf, c1, (show j ≤ (lim' : Int) by omega)], by omega⟩
    · cases h
  · cases h

theorem bounds_run {N : Nat} {ts : Fr} {a : Act} (ha : AR G N ts a) (hs : St P w0 G m w) {lo hi : Option Operand} (hlo : lo.all (okX P N) = true) (hhi : hi.all (okX P N) = true) {len cap h l : Nat} (isSlice : Bool)
    (hc : len ≤ cap) (h1 : bnd ts hi len len = some h) (h2 : bnd ts lo 0 h = some l) :
    (Instr.sliceBounds isSlice len cap (lo.map a.eval) (hi.map a.eval) none).run P w = .ok (l, h, cap) w ∧ l ≤ h ∧ h ≤ len := by
  have hh : (Instr.sliceBounds isSlice len cap none (hi.map a.eval) none).run P w = .ok (0, h, cap) w ∧ h ≤ len := by
    cases hi with
    | none => simp [bnd] at h1; subst h1; exact ⟨by simp [Instr.sliceBounds], Nat.le_refl _⟩
    | some y =>
      have := bnd_run ha hs (by simpa using hhi) h1 hc (if isSlice then .sliceAcap else .sliceAlen)
      exact ⟨by simp [Instr.sliceBounds, this.1], this.2⟩
  cases lo with
  | none => simp [bnd] at h2; subst h2; exact ⟨hh.1, Nat.zero_le _, hh.2⟩
  | some y =>
    have h3 := bnd_run ha hs (by simpa using hlo) h2 (Nat.le_refl h) .sliceB
    refine ⟨?_, h3.2, hh.2⟩
    cases hi with
    | none => simp [bnd] at h1; subst h1; simp [Instr.sliceBounds, h3.1]
    | some z =>
      have := bnd_run ha hs (by simpa using hhi) h1 hc (if isSlice then .sliceAcap else .sliceAlen)
      simp [Instr.sliceBounds, this.1, h3.1]

theorem snd_slD {N : Nat} {ts : Fr} {a : Act} (ha : AR G N ts a) (hs : St P w0 G m w) {lo hi : Option Operand} (hlo : lo.all (okX P N) = true) (hhi : hi.all (okX P N) = true) {i o n B b S c sz : Nat} {v : Value}
    (hg : G i = some (B, b, S)) (hn : n ≤ c) (hc : c ≤ maxLen) (hS : b + o + c * sz ≤ S) (isSlice : Bool) (h : slD sz ts lo hi i o n = some v) :
    ∃ l h', (Instr.sliceBounds isSlice n c (lo.map a.eval) (hi.map a.eval) none).run P w = .ok (l, h', c) w ∧
      VR G v (.slice (if c = l then some ⟨B, b + o, none⟩ else some ((⟨B, b + o, none⟩ : Addr).add (l * sz))) (h' - l) (c - l)) := by
  unfold slD at h
  split at h
  · cases h
  · rename_i h' h1
    split at h
    · cases h
    · rename_i l h2
      obtain ⟨hr, hl, hh⟩ := bounds_run ha hs hlo hhi isSlice hn h1 h2
      refine ⟨l, h', hr, ?_⟩
      split at h
      · rename_i hl0
        simp at h
        subst h
        subst hl0
        have : (if c = 0 then some (⟨B, b + o, none⟩ : Addr) else some ((⟨B, b + o, none⟩ : Addr).add (0 * sz))) = some ⟨B, b + o, none⟩ := by split <;> simp [Addr.add]
        rw [this]
        exact .sl _ _ _ _ _ _ _ _ hg (by omega) (by omega) (by simpa using hS)
      · split at h
        · rename_i hl0 hlh
          simp at h
          subst h
          subst hlh
          rw [Nat.sub_self]
          split
          · exact .empty _ _ (by omega)
          · exact .empty _ _ (by omega)
        · rename_i hl0 hlh
          simp at h
          subst h
          rw [if_neg (by omega), Addr.add_lit, Nat.add_assoc]
          refine .sl _ _ _ _ _ _ _ _ hg (by omega) (by omega) ?_
          have e1 : l * sz + (c - l) * sz = c * sz := by rw [← Nat.add_mul]; congr 1; omega
          omega

theorem snd_sl {N : Nat} {ts : Fr} {a : Act} (ha : AR G N ts a) (hs : St P w0 G m w) {t e : TypeId} {ei : TypeInfo} (hu : P.underlying t = some (.slice e)) (hin : P.info? e = some ei) {x : Operand} (hx : okX P N x = true) {lo hi : Option Operand} (hlo : lo.all (okX P N) = true) (hhi : hi.all (okX P N) = true) {v : Value}
    (h : dR ts m (.sl ei.size x lo hi) = some v) :
    ∃ v', (Instr.sliceAt t (a.eval x) (lo.map a.eval) (hi.map a.eval) none).run P w = .ok v' w ∧ VR G v v' := by
  have hv := ev_VR ha hs x hx
  simp only [dR] at h
  split at h
  · rename_i n c he
    rw [he] at hv
    generalize a.eval x = z at hv
    cases hv
    split at h
    · cases h
    · rename_i h' h1
      split at h
      · cases h
      · rename_i l h2
        simp at h
        subst h
        obtain ⟨hr, hl, hh⟩ := bounds_run ha hs hlo hhi true (Nat.le_refl 0) h1 h2
        obtain rfl : h' = 0 := by omega
        obtain rfl : l = 0 := by omega
        exact ⟨.slice none 0 0, by simp [Instr.sliceAt, Instr.slice, run_underlying hu, hr, run_sizeOf hin], .nils⟩
  · rename_i q q2 q3 n c he
    rw [he] at hv
    generalize a.eval x = z at hv
    cases hv with
    | empty ad cp hcp =>
      split at h
      · cases h
      · rename_i h' h1
        split at h
        · cases h
        · rename_i l h2
          simp at h
          subst h
          obtain ⟨hr, hl, hh⟩ := bounds_run ha hs hlo hhi true (Nat.zero_le cp) h1 h2
          obtain rfl : h' = 0 := by omega
          obtain rfl : l = 0 := by omega
          by_cases hc0 : cp = 0
          · subst hc0
            exact ⟨.slice (some ad) 0 0, by simp [Instr.sliceAt, Instr.slice, run_underlying hu, hr, run_sizeOf hin], .empty _ _ hcp⟩
          · exact ⟨.slice (some (ad.add 0)) 0 cp, by simp [Instr.sliceAt, Instr.slice, run_underlying hu, hr, run_sizeOf hin, hc0], .empty _ _ hcp⟩
  · rename_i i o n c he
    rw [he] at hv
    generalize a.eval x = z at hv
    cases hv with
    | sl _ _ B b S _ cp z hg hn hc hS =>
      split at h
      case isFalse => cases h
      rename_i hz
      subst hz
      obtain ⟨l, h', hr, hv⟩ := snd_slD ha hs hlo hhi hg hn hc hS true h
      refine ⟨_, ?_, hv⟩
      simp only [Instr.sliceAt, Instr.slice, Sem.run_bind, run_underlying hu, Result.andThen_ok, hr, run_sizeOf hin, Sem.run_pure, Option.map_some]
  · cases h

theorem snd_sla {N : Nat} {ts : Fr} {a : Act} (ha : AR G N ts a) (hs : St P w0 G m w) {t e : TypeId} {ei : TypeInfo} {len : Nat} (hu : P.underlying t = some (.array len e)) (hin : P.info? e = some ei) (hml : len ≤ maxLen) {x : Operand} (hx : okX P N x = true) {lo hi : Option Operand} (hlo : lo.all (okX P N) = true) (hhi : hi.all (okX P N) = true) {v : Value}
    (h : dR ts m (.sla len ei.size x lo hi) = some v) :
    ∃ v', (Instr.sliceAt t (a.eval x) (lo.map a.eval) (hi.map a.eval) none).run P w = .ok v' w ∧ VR G v v' := by
  have hv := ev_VR ha hs x hx
  simp only [dR] at h
  split at h
  · rename_i i o he
    rw [he] at hv
    generalize a.eval x = z at hv
    cases hv with
    | ptr _ _ B b S hg =>
      split at h
      case h_2 => cases h
      rename_i cs e hown
      split at h
      case isFalse => cases h
      rename_i hlen
      have hS : b + o + len * ei.size ≤ S := by
        obtain ⟨B', b', S', g', r⟩ := hs.ent i (by rw [hown]; simp)
        rw [hg] at g'
        cases g'
        rw [hown] at r
        obtain ⟨_, c, fz, h1, hcS, h2, h3⟩ := r
        obtain ⟨v', hv, _⟩ := h3 (cs.length - 1) (cs[cs.length - 1]'(by omega)) (by simp)
        have := (Array.getElem?_eq_some_iff.1 hv).1
        omega
      obtain ⟨l, h', hr, hv⟩ := snd_slD ha hs hlo hhi hg (Nat.le_refl len) hml hS false h
      refine ⟨_, ?_, hv⟩
      simp only [Instr.sliceAt, Instr.sureAddr, Sem.run_bind, run_underlying hu, Result.andThen_ok, hr, run_sizeOf hin, Sem.run_pure]
      split <;> rfl
  · cases h

theorem snd_sls {N : Nat} {ts : Fr} {a : Act} (ha : AR G N ts a) (hs : St P w0 G m w) {t : TypeId} (hu : P.underlying t = some .string) {x : Operand} (hx : okX P N x = true) {lo hi : Option Operand} (hlo : lo.all (okX P N) = true) (hhi : hi.all (okX P N) = true) {v : Value}
    (h : dR ts m (.sls x lo hi) = some v) :
    ∃ v', (Instr.sliceAt t (a.eval x) (lo.map a.eval) (hi.map a.eval) none).run P w = .ok v' w ∧ VR G v v' := by
  have hv := ev_VR ha hs x hx
  simp only [dR] at h
  split at h
  · rename_i s he
    rw [he] at hv
    generalize a.eval x = z at hv
    cases hv
    split at h
    · cases h
    · rename_i h' h1
      split at h
      · cases h
      · rename_i l h2
        simp at h
        subst h
        obtain ⟨hr, hl, hh⟩ := bounds_run ha hs hlo hhi false (Nat.le_refl s.size) h1 h2
        exact ⟨_, by simp [Instr.sliceAt, Instr.slice, run_underlying hu, hr], .str _⟩
  · cases h

theorem bytesOf_cells : ∀ {cs : List Value} {bs : List UInt8}, bytesOf cs = some bs → ∃ ns : List Int, cs = ns.map (Value.int .u8) ∧ bs = ns.map fun n => UInt8.ofNat n.toNat
  | [], bs, h => by simp [bytesOf] at h; subst h; exact ⟨[], rfl, rfl⟩
  | c :: cs, bs, h => by
    unfold bytesOf at h
    split at h
    · rename_i e; cases e
    · rename_i n rest e
      cases e
      cases hb : bytesOf cs with
      | none => simp [hb] at h
      | some b =>
        simp [hb] at h
        obtain ⟨ns, h1, h2⟩ := bytesOf_cells hb
        exact ⟨n :: ns, by simp [h1], by rw [← h, h2]; rfl⟩
    · cases h

theorem VRs.ints {k : IntKind} : ∀ {ns : List Int} {l : List Value}, VRs G (ns.map (Value.int k)) l → l = ns.map (Value.int k)
  | [], _, .nil => rfl
  | n :: ns, _, .cons _ _ _ _ h hk => by cases h; rw [VRs.ints hk]; rfl

theorem fold_bytes (ns : List Int) : ns.foldl (fun (r : ByteArray) (n : Int) => r.push (UInt8.ofNat n.toNat)) ByteArray.empty = ⟨(ns.map fun n => UInt8.ofNat n.toNat).toArray⟩ := by
  have key : ∀ (ns : List Int) (s : ByteArray), ns.foldl (fun (r : ByteArray) (n : Int) => r.push (UInt8.ofNat n.toNat)) s = ⟨s.data ++ (ns.map fun n => UInt8.ofNat n.toNat).toArray⟩ := by
    intro ns
    induction ns with
    | nil => intro s; simp
    | cons n ns ih =>
      intro s
      rw [List.foldl_cons, ih]
      congr 1
      simp [ByteArray.push]
  rw [key]
  congr 1
  rw [show ByteArray.empty.data = #[] from rfl, Array.empty_append]

theorem snd_b2s {N : Nat} {ts : Fr} {a : Act} (ha : AR G N ts a) (hs : St P w0 G m w) {s t e : TypeId} (hsrc : P.underlying s = some (.slice e)) (he : P.underlying e = some (.int .u8)) (hdst : P.underlying t = some .string) {x : Operand} (hx : okX P N x = true) {v : Value}
    (h : dR ts m (.b2s x) = some v) : ∃ v', (convert s t (a.eval x)).run P w = .ok v' w ∧ VR G v v' := by
  have hv := ev_VR ha hs x hx
  simp only [dR] at h
  split at h
  · rename_i n c hx'
    rw [hx'] at hv
    generalize a.eval x = z at hv
    cases hv
    simp at h; subst h
    exact ⟨_, by rw [run_convert_bytes_string w s t e none 0 0 hsrc he hdst]; simp [Conv.bytesToString], .str _⟩
  · rename_i q q2 q3 n c hx'
    rw [hx'] at hv
    generalize a.eval x = z at hv
    cases hv with
    | empty ad cp hcp =>
      simp at h; subst h
      refine ⟨.string .empty, ?_, .str _⟩
      rw [run_convert_bytes_string w s t e _ 0 _ hsrc he hdst]
      exact run_bytesToString (P := P) w ad 0 cp [] (by simp [loadCells, loadCellsFrom])
  · rename_i i o n c hx'
    rw [hx'] at hv
    generalize a.eval x = z at hv
    cases hv with
    | sl _ _ B b S _ cp z hg hn hc hS =>
      split at h
      · rename_i cs hr
        split at h
        · rename_i bs hb
          simp at h; subst h
          obtain ⟨cs', h1, h2, h3⟩ := hs.row hg hr
          obtain ⟨ns, rfl, rfl⟩ := bytesOf_cells hb
          have := VRs.ints h2
          subst this
          refine ⟨_, ?_, .str _⟩
          rw [run_convert_bytes_string w s t e _ n _ hsrc he hdst]
          have hl := run_loadCells_list (P := P) (w := w) ⟨B, b + o, none⟩ _ h3
          rw [h1] at hl
          rw [run_bytesToString w _ n cp ns hl, fold_bytes]
        · cases h
      · cases h
  · cases h
end

end Go.Proofs.YtgfkjldohilmkaaDoor.Ab
