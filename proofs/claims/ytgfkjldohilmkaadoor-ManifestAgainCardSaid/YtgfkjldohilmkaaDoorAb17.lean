/- A function whole; and the words by which a walk over the abstract memory goes on. -/
import Derived.Test.YtgfkjldohilmkaaDoorAb16
import Derived.IntWalk
set_option linter.unusedVariables false
set_option linter.unusedSimpArgs false
namespace Go.Proofs.YtgfkjldohilmkaaDoor.Ab
open Go Go.RowKit

def okFn (P : Program) (f N : Nat) (certs : List (Nat × List Nat × List Nat)) : Option (RC × List RO) := match P.funcs[f]? with
  | some fn => match fn.body with
    | some c => if fn.ntmps == N && callOk P f && P.follows .mixedOrders then match compC P N certs c, fn.results.toList.mapM (resV P N) with
      | some r, some ro => some (r, ro)
      | _, _ => none else none
    | none => none
  | none => none

theorem AbC_fn {P : Program} {w0 : World} {f : FuncId} {N : Nat} {certs : List (Nat × List Nat × List Nat)} {r : RC} {ro : List RO} {args : List Value} {m : Mem} {Q : Value → Mem → Prop}
    (hok : okFn P f N certs = some (r, ro)) (hlen : args.length ≤ N) (h : AbW P w0 r (bodyA ro Q) (frA args) m) : AbC P w0 f args m Q := by
  unfold okFn at hok
  split at hok
  case h_2 => cases hok
  rename_i fn hf
  split at hok
  case h_2 => cases hok
  rename_i c hb
  split at hok
  case isFalse => cases hok
  rename_i hc
  simp only [Bool.and_eq_true, beq_iff_eq] at hc
  split at hok
  case h_2 => cases hok
  rename_i r' ro' hr hro
  simp at hok
  obtain ⟨rfl, rfl⟩ := hok
  exact AbC_of hc.2 hf hb hc.1.1 hc.1.2 hr hro hlen h

section
variable {P : Program} {w0 : World}

/-- A sequence, cut between its parts. -/
theorem AbW_cut {a b : RC} {Q : AQ} {ts : Fr} {m : Mem} (J : Fr → Mem → Prop) (h : AbW P w0 a (thenA J Q) ts m) (hj : ∀ ts m, J ts m → AbW P w0 b Q ts m) : AbW P w0 (.seq a b) Q ts m := by
  refine AbW.mono (c := a) h fun e ts m h => ?_
  cases e with
  | normal => exact hj _ _ h
  | _ => exact h

theorem AbW_seq_k {a b : RC} {Q : AQ} {ts : Fr} {m : Mem} (h : ∀ K : Fr → Mem → Prop, (∀ ts m, AbW P w0 b Q ts m → K ts m) → AbW P w0 a (thenA K Q) ts m) : AbW P w0 (.seq a b) Q ts m :=
  AbW_cut _ (h (AbW P w0 b Q) fun _ _ h => h) fun _ _ h => h

theorem LoopW_of {B : AQ → Fr → Mem → Prop} {Q : AQ} {ts : Fr} {m : Mem} (I : Nat → Fr → Mem → Prop) (n : Nat) (h0 : I n ts m)
    (h : ∀ (k : Nat) (ts : Fr) (m : Mem) (K : Fr → Mem → Prop), I k ts m → (∀ k' ts m, k' < k → I k' ts m → K ts m) → B (thenA K Q) ts m) : LoopW B Q ts m :=
  ⟨I, n, h0, fun k ts m hI => h k ts m (endK I k) hI fun k' ts m hk hi => ⟨k', hk, hi⟩⟩
end

section
variable {k : IntKind} {a b : Int}
@[simp] theorem dBin_add : dBin .add (.int k a) (.int k b) = some (.int k (k.wrap (a + b))) := by simp [dBin]
@[simp] theorem dBin_sub : dBin .sub (.int k a) (.int k b) = some (.int k (k.wrap (a - b))) := by simp [dBin]
@[simp] theorem dBin_mul : dBin .mul (.int k a) (.int k b) = some (.int k (k.wrap (a * b))) := by simp [dBin]
@[simp] theorem dBin_lss : dBin .lss (.int k a) (.int k b) = some (.bool (decide (a < b))) := by simp [dBin]
@[simp] theorem dBin_leq : dBin .leq (.int k a) (.int k b) = some (.bool (decide (a ≤ b))) := by simp [dBin]
@[simp] theorem dBin_gtr : dBin .gtr (.int k a) (.int k b) = some (.bool (decide (a > b))) := by simp [dBin]
@[simp] theorem dBin_geq : dBin .geq (.int k a) (.int k b) = some (.bool (decide (a ≥ b))) := by simp [dBin]
@[simp] theorem dBin_eql : dBin .eql (.int k a) (.int k b) = some (.bool (a == b)) := by simp [dBin]
@[simp] theorem dBin_neq : dBin .neq (.int k a) (.int k b) = some (.bool (a != b)) := by simp [dBin]
/-- Two numbers turned into one another. -/
def xorK (k : IntKind) (a b : Int) : Int := k.wrap ((BitVec.ofInt k.bits a ^^^ BitVec.ofInt k.bits b).toNat : Nat)
@[simp] theorem dBin_xor : dBin .xor (.int k a) (.int k b) = some (.int k (xorK k a b)) := by simp [dBin, xorK]
theorem dBin_quo (h : b ≠ 0) : dBin .quo (.int k a) (.int k b) = some (.int k (k.wrap (a.tdiv b))) := by simp [dBin, h]
theorem dBin_rem (h : b ≠ 0) : dBin .rem (.int k a) (.int k b) = some (.int k (a.tmod b)) := by simp [dBin, h]
variable {s t : ByteArray}
@[simp] theorem dBin_seql : dBin .eql (.string s) (.string t) = some (.bool (s.data.toList == t.data.toList)) := by simp [dBin]
@[simp] theorem dBin_sneq : dBin .neq (.string s) (.string t) = some (.bool (!(s.data.toList == t.data.toList))) := by simp [dBin]
theorem dBin_sadd (h : s.size + t.size ≤ 9223372036854775807) : dBin .add (.string s) (.string t) = some (.string (s ++ t)) := by simp [dBin, h]
end

theorem Mem.cell_own {m : Mem} {i o : Nat} {cs : List Value} {e : TypeId} (h : m.get i = .own cs e) : m.cell i o = cs[o]? := by simp [Mem.cell, h, Ent.cells?]
theorem Mem.cell_ro {m : Mem} {i o : Nat} {cs : List Value} (h : m.get i = .ro cs) : m.cell i o = cs[o]? := by simp [Mem.cell, h, Ent.cells?]
theorem Mem.row_own {m : Mem} {i o n : Nat} {cs : List Value} {e : TypeId} (h : m.get i = .own cs e) : m.row i o n = if o + n ≤ cs.length then some ((cs.drop o).take n) else none := by simp [Mem.row, h, Ent.cells?]
theorem Mem.row_ro {m : Mem} {i o n : Nat} {cs : List Value} (h : m.get i = .ro cs) : m.row i o n = if o + n ≤ cs.length then some ((cs.drop o).take n) else none := by simp [Mem.row, h, Ent.cells?]
@[simp] theorem Mem.push_nxt (m : Mem) (e : Ent) : (m.push e).next = m.next + 1 := rfl
@[simp] theorem Mem.set_nxt (m : Mem) (i : Nat) (e : Ent) : (m.set i e).next = m.next := rfl

theorem w64 {x : Int} (h : -9223372036854775808 ≤ x ∧ x ≤ 9223372036854775807) : IntKind.i64.wrap x = x := IntWalk.i64_in x h

@[simp] theorem upd_at (ts : Fr) (d : Nat) (v : Value) (k : Nat) : upd ts d v k = if k = d then v else ts k := rfl
@[simp] theorem updo_none (ts : Fr) (v : Value) : updo ts none v = ts := rfl
@[simp] theorem updo_some (ts : Fr) (d : Nat) (v : Value) : updo ts (some d) v = upd ts d v := rfl
theorem frA_at (l : List Value) (k : Nat) : frA l k = (l[k]?).getD undef := by simp [frA, List.getD_eq_getElem?_getD]

/-- A slice that is the own, whole: of none or of a block. -/
def slV (ob : Option Nat) (n sz : Nat) : Value := match ob with
  | none => .slice none 0 0
  | some b => .slice (some ⟨b, 0, none⟩) n sz
def SlO (m : Mem) (e sz : Nat) (ob : Option Nat) (cs : List Value) (n : Nat) : Prop := cs.length = n * sz ∧ match ob with
  | none => n = 0
  | some b => m.get b = .own cs e ∧ b < m.next

theorem SlO.keep {m m' : Mem} {e sz : Nat} {ob : Option Nat} {cs : List Value} {n : Nat} (h : SlO m e sz ob cs n) (hn : m.next ≤ m'.next) (hk : ∀ b, ob = some b → m'.get b = m.get b) : SlO m' e sz ob cs n := by
  refine ⟨h.1, ?_⟩
  have h2 := h.2
  cases ob with
  | none => exact h2
  | some b => exact ⟨by rw [hk b rfl]; exact h2.1, Nat.lt_of_lt_of_le h2.2 hn⟩

theorem SlO.lenV {m : Mem} {e sz : Nat} {ob : Option Nat} {cs : List Value} {n : Nat} (h : SlO m e sz ob cs n) : lenV (slV ob n sz) = n := by
  cases ob with
  | none => exact h.2.symm
  | some b => rfl

theorem SlO.elems {m : Mem} {e sz : Nat} {ob : Option Nat} {cs : List Value} {n : Nat} (h : SlO m e sz ob cs n) : elemsV m sz (slV ob n sz) = some cs := by
  cases ob with
  | none =>
    have h1 := h.1
    rw [h.2] at h1
    have : cs = [] := by simpa using h1
    subst this; rfl
  | some b =>
    simp only [slV, elemsV, Mem.row_own h.2.1]
    rw [if_pos (by rw [h.1]; omega)]
    simp [← h.1]

/-- More is put behind an own slice: where it lies then, and what stays. -/
theorem app_SlO {ts : Fr} {m : Mem} {e sz bytes n k : Nat} {ob : Option Nat} {cs ys : List Value} {x y : Operand} (h : SlO m e sz ob cs n) (hx : ev ts x = slV ob n sz) (hy : elemsV m sz (ev ts y) = some ys) (hk : lenV (ev ts y) = k) (hpos : 0 < k)
    (h1 : ys.all oneC = true) (h2 : (n + k) * bytes ≤ 140737488355328) (h3 : n + k ≤ maxLen) (hl : ys.length = k * sz) :
    ∃ m', dE ts m (.app e sz bytes x y) = some (slV (some m.next) (n + k) sz, m') ∧ SlO m' e sz (some m.next) (cs ++ ys) (n + k) ∧ m'.next = m.next + 1 ∧ ∀ i, i < m.next → (∀ b, ob = some b → i ≠ b) → m'.get i = m.get i := by
  have hln := h.lenV
  cases ob with
  | none =>
    have hn : n = 0 := h.2
    subst hn
    have hcs : cs = [] := by simpa using h.1
    subst hcs
    refine ⟨m.push (.own ys e), ?_, ⟨by simp [hl], by simp [Mem.push_get], by simp⟩, rfl, fun i hi _ => Mem.push_old m _ hi⟩
    simp only [dE, hy, hk, hx, hln, h1, if_neg (Nat.ne_of_gt hpos), Nat.zero_add]
    rw [if_pos ⟨trivial, by simpa using h2, by simpa using h3⟩]
    rfl
  | some b =>
    have hb := h.2
    refine ⟨(m.set b .dead).push (.own (cs ++ ys) e), ?_, ⟨by simp [hl, h.1, Nat.add_mul], by simp [Mem.push_get], by simp⟩, rfl, fun i hi hne => by rw [Mem.push_old _ _ (by simpa using hi), Mem.set_other _ _ (hne b rfl)]⟩
    simp only [dE, hy, hk, hx, hln, h1, if_neg (Nat.ne_of_gt hpos)]
    rw [if_pos ⟨trivial, h2, h3⟩]
    simp only [slV, hb.1, Nat.zero_add]
    rw [if_pos ⟨by rw [h.1]; omega, trivial, trivial, by simp⟩]
    simp [← h.1]


section
variable {P : Program} {w0 : World} {ts : Fr} {m : Mem} {R : Value → Mem → Prop}
theorem SK_r {o : RO} : SK P w0 (.r o) ts m R = (match dR ts m o with | some v => R v m | none => False) := rfl
theorem SK_a {x : Operand} : SK P w0 (.a x) ts m R = R (ev ts x) m := rfl
theorem SK_c {o : CO} : SK P w0 (.c o) ts m R = (match dC P ts o with | some (f, args) => AbC P w0 f args m R | none => False) := rfl
theorem SK_al {z : List Value} {e : TypeId} : SK P w0 (.e (.al z e)) ts m R = R (.pointer (some ⟨m.next, 0, none⟩)) (m.push (.own z e)) := rfl
theorem SK_bx {x : Operand} {e : TypeId} : SK P w0 (.e (.bx e x)) ts m R = R (.pointer (some ⟨m.next, 0, none⟩)) (m.push (.own (cellsV (ev ts x)) e)) := rfl
theorem SK_bsl {z : List Value} {e : TypeId} {sz len : Nat} {parts : List (Nat × Nat × Operand)} {cs : List Value} (h : fillD ts parts z = some cs) (hl : cs.length = len * sz) : SK P w0 (.e (.bsl e sz len z parts)) ts m R = R (.slice (some ⟨m.next, 0, none⟩) len sz) (m.push (.own cs e)) := by
  simp [SK, dE, h, hl]
theorem SK_st {n i o : Nat} {p x : Operand} {cs : List Value} {e : TypeId} (hp : ev ts p = .pointer (some ⟨i, o, none⟩)) (hm : m.get i = .own cs e) (h1 : o + n ≤ cs.length) (h2 : (cellsV (ev ts x)).length = n) (h3 : (cellsV (ev ts x)).all oneC = true)
    (hR : R undef (m.set i (.own (putAt cs o (cellsV (ev ts x))) e))) : SK P w0 (.e (.st n p x)) ts m R := by
  simp only [SK, dE, hp, hm]
  rw [if_pos ⟨h1, h2, h3⟩]
  exact hR
theorem SK_s2b {e : TypeId} {x : Operand} {s : ByteArray} (hx : ev ts x = .string s) (hl : s.size ≤ 140737488355328) : SK P w0 (.e (.s2b e x)) ts m R = R (.slice (some ⟨m.next, 0, none⟩) s.size 1) (m.push (.own (s.data.toList.map byteV) e)) := by
  simp only [SK, dE, hx]
  rw [if_pos hl]
theorem SK_app {e sz bytes n k : Nat} {ob : Option Nat} {cs ys : List Value} {x y : Operand} (h : SlO m e sz ob cs n) (hx : ev ts x = slV ob n sz) (hy : elemsV m sz (ev ts y) = some ys) (hk : lenV (ev ts y) = k) (hpos : 0 < k)
    (h1 : ys.all oneC = true) (h2 : (n + k) * bytes ≤ 140737488355328) (h3 : n + k ≤ maxLen) (hl : ys.length = k * sz)
    (hR : ∀ m', SlO m' e sz (some m.next) (cs ++ ys) (n + k) → m'.next = m.next + 1 → (∀ i, i < m.next → (∀ b, ob = some b → i ≠ b) → m'.get i = m.get i) → R (slV (some m.next) (n + k) sz) m') : SK P w0 (.e (.app e sz bytes x y)) ts m R := by
  obtain ⟨m', q1, q2, q3, q4⟩ := app_SlO h hx hy hk hpos h1 h2 h3 hl
  simp only [SK, q1]
  exact hR m' q2 q3 q4
/-- Nothing is put behind a slice. -/
theorem SK_app0 {e sz bytes n : Nat} {ob : Option Nat} {ys : List Value} {x y : Operand} (hx : ev ts x = slV ob n sz) (hy : elemsV m sz (ev ts y) = some ys) (hk : lenV (ev ts y) = 0) (hR : R (slV ob n sz) m) : SK P w0 (.e (.app e sz bytes x y)) ts m R := by
  simp only [SK, dE, hy, hk, if_true, hx]
  cases ob with
  | none => exact hR
  | some b => exact hR
/-- A slice is copied into one that is new. -/
theorem SK_app_new {e sz bytes k : Nat} {ys : List Value} {x y : Operand} (hx : ev ts x = .slice none 0 0) (hy : elemsV m sz (ev ts y) = some ys) (hk : lenV (ev ts y) = k)
    (h1 : ys.all oneC = true) (h2 : k * bytes ≤ 140737488355328) (h3 : k ≤ maxLen) (hl : ys.length = k * sz)
    (hR : ∀ ob m', SlO m' e sz ob ys k → m.next ≤ m'.next → (∀ b, ob = some b → m.next ≤ b) → (∀ i, i < m.next → m'.get i = m.get i) → R (slV ob k sz) m') : SK P w0 (.e (.app e sz bytes x y)) ts m R := by
  by_cases hpos : 0 < k
  · have h0 : SlO m e sz none [] 0 := ⟨by simp, rfl⟩
    refine SK_app h0 hx hy hk hpos h1 (by simpa using h2) (by simpa using h3) hl fun m' q1 q2 q3 => ?_
    have := hR (some m.next) m' (by simpa using q1) (by omega) (fun b hb => by cases hb; exact Nat.le_refl _) fun i hi => q3 i hi (fun b hb => by cases hb)
    simpa using this
  · have hk0 : k = 0 := by omega
    subst hk0
    have : ys = [] := by simpa using hl
    subst this
    exact SK_app0 (ob := none) (n := 0) hx hy hk (hR none m ⟨by simp, rfl⟩ (Nat.le_refl _) (fun b hb => by cases hb) fun i _ => rfl)
end

section
variable {P : Program} {w0 : World} {ts : Fr} {m : Mem} {Q : AQ} {R : Fr → Mem → Prop}
theorem RS_nil : RS P w0 R [] ts m = R ts m := rfl
theorem RS_cons {d : Option Nat} {g : Option (Nat × Bool)} {k : RK} {stab : List (Nat × Option (Nat × Bool) × RO)} {rest : List Sp} : RS P w0 R (⟨d, g, k, stab⟩ :: rest) ts m = if wantD g ts = true then SK P w0 k ts m (contK (RS P w0 R rest) d stab ts) else RS P w0 R rest (updo ts d undef) m := rfl
theorem AbW_skip : AbW P w0 .skip Q ts m = Q .normal ts m := rfl
theorem AbW_run {l : List Sp} : AbW P w0 (.run l) Q ts m = RS P w0 (Q .normal) l ts m := rfl
theorem AbW_seq {a b : RC} : AbW P w0 (.seq a b) Q ts m = AbW P w0 a (thenA (AbW P w0 b Q) Q) ts m := rfl
theorem AbW_cond {c : Operand} {a b : RC} : AbW P w0 (.cond c a b) Q ts m = (match ev ts c with
    | .bool true => AbW P w0 a Q ts m
    | .bool false => AbW P w0 b Q ts m
    | _ => False) := rfl
theorem AbW_block {id : Nat} {b : RC} : AbW P w0 (.block id b) Q ts m = AbW P w0 b (inBlockA id Q) ts m := rfl
theorem AbW_loop {b : RC} : AbW P w0 (.loop b) Q ts m = LoopW (AbW P w0 b) Q ts m := rfl
theorem AbW_exit {id : Nat} : AbW P w0 (.exit id) Q ts m = Q (.exit id) ts m := rfl
theorem AbW_jumps {b r1 r2 : RC} {l1 l2 : Nat} : AbW P w0 (.jumps b l1 r1 l2 r2) Q ts m = JumpW (AbW P w0 b) (AbW P w0 r1) (AbW P w0 r2) l1 l2 Q ts m := rfl
theorem JumpW_of {B R1 R2 : AQ → Fr → Mem → Prop} {l1 l2 : Nat} (I : Bool → Nat → Fr → Mem → Prop) (h0 : ∀ J : Bool → Fr → Mem → Prop, (∀ x k ts m, I x k ts m → J x ts m) → B (jumpA l1 l2 J Q) ts m)
    (h1 : ∀ (k : Nat) (ts : Fr) (m : Mem) (J : Bool → Fr → Mem → Prop), I false k ts m → (∀ x k' ts m, k' < k → I x k' ts m → J x ts m) → R1 (jumpA l1 l2 J Q) ts m)
    (h2 : ∀ (k : Nat) (ts : Fr) (m : Mem) (J : Bool → Fr → Mem → Prop), I true k ts m → (∀ x k' ts m, k' < k → I x k' ts m → J x ts m) → R2 (jumpA l1 l2 J Q) ts m) : JumpW B R1 R2 l1 l2 Q ts m :=
  ⟨I, h0 (exK I) fun x k ts m h => ⟨k, h⟩, fun k ts m h => h1 k ts m _ h fun x k' ts m hk hi => ⟨k', hk, hi⟩, fun k ts m h => h2 k ts m _ h fun x k' ts m hk hi => ⟨k', hk, hi⟩⟩
theorem jumpA_normal {l1 l2 : Nat} {J : Bool → Fr → Mem → Prop} : jumpA l1 l2 J Q .normal ts m = Q .normal ts m := rfl
theorem jumpA_ret {l1 l2 : Nat} {J : Bool → Fr → Mem → Prop} : jumpA l1 l2 J Q .ret ts m = Q .ret ts m := rfl
theorem jumpA_exit {l1 l2 i : Nat} {J : Bool → Fr → Mem → Prop} : jumpA l1 l2 J Q (.exit i) ts m = Q (.exit i) ts m := rfl
theorem jumpA_goto {l1 l2 l : Nat} {J : Bool → Fr → Mem → Prop} : jumpA l1 l2 J Q (.goto l) ts m = ((l = l1 ∧ J false ts m) ∨ (l = l2 ∧ J true ts m)) := rfl
theorem AbW_scope {b : RC} : AbW P w0 (.scope b) Q ts m = AbW P w0 b (noGotoA Q) ts m := rfl
theorem AbW_label {l : Nat} : AbW P w0 (.label l) Q ts m = Q .normal ts m := rfl
theorem AbW_goto {l : Nat} : AbW P w0 (.goto l) Q ts m = Q (.goto l) ts m := rfl
theorem AbW_ret : AbW P w0 .ret Q ts m = Q .ret ts m := rfl
variable {K : Fr → Mem → Prop}
theorem thenA_normal : thenA K Q .normal ts m = K ts m := rfl
theorem thenA_exit {id : Nat} : thenA K Q (.exit id) ts m = Q (.exit id) ts m := rfl
theorem thenA_ret : thenA K Q .ret ts m = Q .ret ts m := rfl
theorem thenA_goto {l : Nat} : thenA K Q (.goto l) ts m = Q (.goto l) ts m := rfl
theorem inBlockA_normal {id : Nat} : inBlockA id Q .normal ts m = Q .normal ts m := rfl
theorem inBlockA_exit {id i : Nat} : inBlockA id Q (.exit i) ts m = if i = id then Q .normal ts m else Q (.exit i) ts m := rfl
theorem inBlockA_ret {id : Nat} : inBlockA id Q .ret ts m = Q .ret ts m := rfl
theorem inBlockA_goto {id l : Nat} : inBlockA id Q (.goto l) ts m = Q (.goto l) ts m := rfl
variable {ro : List RO} {S : Value → Mem → Prop}
theorem bodyA_normal : bodyA ro S .normal ts m = (match retV ts m ro with | some v => S v m | none => False) := rfl
theorem bodyA_ret : bodyA ro S .ret ts m = (match retV ts m ro with | some v => S v m | none => False) := rfl
variable {v : Value} {d : Option Nat} {stab : List (Nat × Option (Nat × Bool) × RO)}
theorem contK_at : contK R d stab ts v m = (stabOk (updo ts d v) m stab ∧ R (updo ts d v) m) := rfl
end

def Mem.kill (m : Mem) (ob : Option Nat) : Mem := { next := m.next, get := match ob with
  | none => m.get
  | some b => (m.set b .dead).get }
theorem Mem.kill_nxt (m : Mem) (ob : Option Nat) : (m.kill ob).next = m.next := rfl
theorem Mem.kill_some (m : Mem) (b : Nat) : m.kill (some b) = m.set b .dead := rfl
theorem Mem.kill_none (m : Mem) : m.kill none = m := rfl
theorem Mem.kill_other (m : Mem) {ob : Option Nat} {k : Nat} (h : ob ≠ some k) : (m.kill ob).get k = m.get k := by
  cases ob with
  | none => rfl
  | some b => exact Mem.set_other _ _ fun e => h (by rw [e])
theorem Mem.push_at (m : Mem) (e : Ent) {k : Nat} (h : k = m.next) : (m.push e).get k = e := by subst h; simp
theorem Mem.set_at (m : Mem) (e : Ent) {i k : Nat} (h : k = i) : (m.set i e).get k = e := by subst h; simp

theorem SlO.lt {m : Mem} {e sz n b : Nat} {cs : List Value} (h : SlO m e sz (some b) cs n) : b < m.next := h.2.2
theorem SlO.ne {m : Mem} {e sz n i : Nat} {ob : Option Nat} {cs : List Value} (h : SlO m e sz ob cs n) {E : Ent} (hi : m.get i = E) (hE : ∀ c, E ≠ .own c e) : ob ≠ some i := by
  rintro rfl
  have := h.2.1
  rw [hi] at this
  exact hE _ this
theorem SlO.ne2 {m : Mem} {e e' sz sz' n n' : Nat} {ob ob' : Option Nat} {cs cs' : List Value} (h : SlO m e sz ob cs n) (h' : SlO m e' sz' ob' cs' n') (he : e ≠ e') : ∀ b, ob = some b → ob' ≠ some b := by
  rintro b rfl rfl
  have h1 := h.2.1
  rw [h'.2.1] at h1
  cases h1
  exact he rfl
theorem SlO.push {m : Mem} {e sz n : Nat} {ob : Option Nat} {cs : List Value} (h : SlO m e sz ob cs n) (E : Ent) : SlO (m.push E) e sz ob cs n :=
  h.keep (by simp) fun b hb => by subst hb; exact Mem.push_old _ _ h.lt
theorem SlO.set {m : Mem} {e sz n i : Nat} {ob : Option Nat} {cs : List Value} (h : SlO m e sz ob cs n) (hne : ob ≠ some i) (E : Ent) : SlO (m.set i E) e sz ob cs n :=
  h.keep (by simp) fun b hb => Mem.set_other _ _ fun e => hne (by rw [hb, e])
theorem SlO.kill {m : Mem} {e sz n : Nat} {ob ob' : Option Nat} {cs : List Value} (h : SlO m e sz ob cs n) (hne : ∀ b, ob = some b → ob' ≠ some b) : SlO (m.kill ob') e sz ob cs n :=
  h.keep (by simp [Mem.kill_nxt]) fun b hb => Mem.kill_other _ (hne b hb)
theorem SlO.new {m : Mem} {e sz n : Nat} {cs : List Value} (hl : cs.length = n * sz) : SlO (m.push (.own cs e)) e sz (some m.next) cs n := ⟨hl, by simp, by simp⟩

theorem SK_ap {P : Program} {w0 : World} {ts : Fr} {m : Mem} {R : Value → Mem → Prop} {e sz bytes n k : Nat} {ob : Option Nat} {cs ys : List Value} {x y : Operand} (h : SlO m e sz ob cs n) (hx : ev ts x = slV ob n sz) (hy : elemsV m sz (ev ts y) = some ys) (hk : lenV (ev ts y) = k) (hpos : 0 < k)
    (h1 : ys.all oneC = true) (h2 : (n + k) * bytes ≤ 140737488355328) (h3 : n + k ≤ maxLen) (hl : ys.length = k * sz)
    (hR : R (slV (some m.next) (n + k) sz) ((m.kill ob).push (.own (cs ++ ys) e))) : SK P w0 (.e (.app e sz bytes x y)) ts m R := by
  have hln := h.lenV
  unfold SK
  cases ob with
  | none =>
    have hn : n = 0 := h.2
    subst hn
    have hcs : cs = [] := by simpa using h.1
    subst hcs
    simp only [dE, hy, hk, hx, hln, h1, if_neg (Nat.ne_of_gt hpos), Nat.zero_add]
    rw [if_pos ⟨trivial, by simpa using h2, by simpa using h3⟩]
    simpa [Mem.kill, slV] using hR
  | some b =>
    have hb := h.2
    simp only [dE, hy, hk, hx, hln, h1, if_neg (Nat.ne_of_gt hpos)]
    rw [if_pos ⟨trivial, h2, h3⟩]
    simp only [slV, hb.1, Nat.zero_add]
    rw [if_pos ⟨by rw [h.1]; omega, trivial, trivial, by simp⟩]
    have e1 : (cs.drop 0).take (n * sz) = cs := by simp [← h.1]
    rw [e1]
    exact hR
theorem own_ne {m : Mem} {i j e e' : Nat} {c c' : List Value} (h1 : m.get i = .own c e) (h2 : m.get j = .own c' e') (he : e ≠ e') : i ≠ j := by
  rintro rfl
  rw [h1] at h2
  injection h2 with _ h3
  exact he h3
section
variable {a : Array Value} {b : Bool} {k : IntKind} {n : Int} {s : ByteArray} {p : Option Addr} {r : Option Nat} {t c l : Nat} {v : Value} {ob : Option Nat} {fn : Fn} {x y : Array Value}
theorem cellsV_agg : cellsV (.agg a) = a.toList := rfl
theorem cellsV_bool : cellsV (.bool b) = [.bool b] := rfl
theorem cellsV_int : cellsV (.int k n) = [.int k n] := rfl
theorem cellsV_str : cellsV (.string s) = [.string s] := rfl
theorem cellsV_ptr : cellsV (.pointer p) = [.pointer p] := rfl
theorem cellsV_sl : cellsV (.slice p l c) = [.slice p l c] := rfl
theorem cellsV_slV : cellsV (slV ob l c) = [slV ob l c] := by cases ob <;> rfl
theorem cellsV_map : cellsV (.map r) = [.map r] := rfl
theorem cellsV_iface : cellsV (.iface t v) = [.iface t v] := rfl
theorem cellsV_nili : cellsV .nilIface = [.nilIface] := rfl
theorem cellsV_func : cellsV (.func fn x y) = [.func fn x y] := rfl
theorem cellsV_nilf : cellsV .nilFunc = [.nilFunc] := rfl
theorem lenV_sl : lenV (.slice p l c) = l := rfl
theorem lenV_str : lenV (.string s) = s.size := rfl
theorem oneC_slV : oneC (slV ob l c) = true := by cases ob <;> rfl
end
theorem natNe {a b : Nat} (h : a ≠ b) : (a = b) = False := eq_false h
theorem SlO.old {m : Mem} {e sz n k : Nat} {ob : Option Nat} {cs : List Value} (h : SlO m e sz ob cs n) (hk : m.next ≤ k) : ob ≠ some k := by
  rintro rfl
  have := h.lt
  omega
theorem cells_own {cs : List Value} {e : TypeId} : (Ent.own cs e).cells? = some cs := rfl
theorem cells_ro {cs : List Value} : (Ent.ro cs).cells? = some cs := rfl

/-- A slice that can be read: n elements of sz cells. -/
def SlR (m : Mem) (sz : Nat) (v : Value) (cs : List Value) (n : Nat) : Prop := cs.length = n * sz ∧
  ((n = 0 ∧ (v = .slice none 0 0 ∨ v = .slice (some ⟨0, 0, some 0⟩) 0 0)) ∨ ∃ i o L, v = .slice (some ⟨i, o, none⟩) n sz ∧ (m.get i).cells? = some L ∧ o + n * sz ≤ L.length ∧ (L.drop o).take (n * sz) = cs)
/-- The block of a slice. -/
def blk : Value → Option Nat
  | .slice (some ⟨i, _, none⟩) _ _ => some i
  | _ => none
theorem blk_slV {ob : Option Nat} {n sz : Nat} : blk (slV ob n sz) = ob := by cases ob <;> rfl

theorem SlR.elems {m : Mem} {sz n : Nat} {v : Value} {cs : List Value} (h : SlR m sz v cs n) : elemsV m sz v = some cs := by
  obtain ⟨h1, ⟨rfl, h2⟩ | ⟨i, o, L, rfl, h2, h3, h4⟩⟩ := h
  · have : cs = [] := by simpa using h1
    subst this
    rcases h2 with rfl | rfl <;> rfl
  · simp only [elemsV, Mem.row, h2]
    rw [if_pos h3, h4]
theorem SlR.lenV {m : Mem} {sz n : Nat} {v : Value} {cs : List Value} (h : SlR m sz v cs n) : lenV v = n := by
  obtain ⟨h1, ⟨rfl, h2⟩ | ⟨i, o, L, rfl, h2, h3, h4⟩⟩ := h
  · rcases h2 with rfl | rfl <;> rfl
  · rfl
theorem SlR.keep {m m' : Mem} {sz n : Nat} {v : Value} {cs : List Value} (h : SlR m sz v cs n) (hk : ∀ b, blk v = some b → m'.get b = m.get b) : SlR m' sz v cs n := by
  refine ⟨h.1, ?_⟩
  rcases h.2 with h2 | ⟨i, o, L, rfl, h2, h3, h4⟩
  · exact .inl h2
  · exact .inr ⟨i, o, L, rfl, by rw [hk i rfl]; exact h2, h3, h4⟩
theorem SlO.read {m : Mem} {e sz n : Nat} {ob : Option Nat} {cs : List Value} (h : SlO m e sz ob cs n) : SlR m sz (slV ob n sz) cs n := by
  refine ⟨h.1, ?_⟩
  cases ob with
  | none => exact .inl ⟨h.2, .inl (by rw [h.2]; rfl)⟩
  | some b => exact .inr ⟨b, 0, cs, rfl, by rw [h.2.1]; rfl, by rw [h.1]; omega, by simp [← h.1]⟩
theorem SlR.at {m : Mem} {sz n j : Nat} {v : Value} {cs : List Value} (h : SlR m sz v cs n) (hj : j < n) : ∃ i o L, v = .slice (some ⟨i, o, none⟩) n sz ∧ (m.get i).cells? = some L ∧ o + n * sz ≤ L.length ∧ (L.drop (o + j * sz)).take sz = (cs.drop (j * sz)).take sz ∧ (∀ k, k < sz → L[o + j * sz + k]? = cs[j * sz + k]?) := by
  rcases h.2 with h2 | ⟨i, o, L, rfl, h2, h3, h4⟩
  · omega
  · have hle : j * sz + sz ≤ n * sz := by
      have : (j + 1) * sz ≤ n * sz := Nat.mul_le_mul_right _ hj
      rwa [Nat.add_mul, Nat.one_mul] at this
    refine ⟨i, o, L, rfl, h2, h3, ?_, fun k hk => ?_⟩
    · rw [← h4, List.drop_take, List.take_take, List.drop_drop, Nat.min_eq_left (by omega)]
    · rw [← h4, List.getElem?_take, if_pos (by omega), List.getElem?_drop]
      congr 1; omega
theorem SlR.len {m : Mem} {sz n : Nat} {v : Value} {cs : List Value} (h : SlR m sz v cs n) {ts : Fr} {x : Operand} (hx : ev ts x = v) : dR ts m (.lenl x) = some (.int .i64 n) := by
  rcases h.2 with ⟨rfl, rfl | rfl⟩ | ⟨i, o, L, rfl, _⟩ <;> simp [dR, hx]
theorem slV_len {ts : Fr} {m : Mem} {x : Operand} {ob : Option Nat} {n sz : Nat} (hx : ev ts x = slV ob n sz) (h : ob = none → n = 0) : dR ts m (.lenl x) = some (.int .i64 n) := by
  cases ob with
  | none => rw [h rfl] at hx ⊢; simp [dR, hx, slV]
  | some b => simp [dR, hx, slV]

/-- Rows of cells of one length, one behind the other. -/
theorem flat_drop {α : Type} {f : α → List Value} {k : Nat} (hf : ∀ x, (f x).length = k) : ∀ (l : List α) (j : Nat), (l.flatMap f).drop (j * k) = (l.drop j).flatMap f
  | l, 0 => by simp
  | [], j + 1 => by simp
  | x :: l, j + 1 => by
    rw [List.flatMap_cons, List.drop_succ_cons, ← flat_drop hf l j, Nat.add_mul, Nat.one_mul, Nat.add_comm, ← List.drop_drop]
    congr 1
    rw [← hf x]; simp
theorem flat_len {α : Type} {f : α → List Value} {k : Nat} (hf : ∀ x, (f x).length = k) : ∀ (l : List α), (l.flatMap f).length = l.length * k
  | [] => by simp
  | x :: l => by rw [List.flatMap_cons, List.length_append, flat_len hf l, hf, List.length_cons, Nat.add_mul]; omega
theorem flat_at {α : Type} {f : α → List Value} {k : Nat} (hf : ∀ x, (f x).length = k) (l : List α) {j : Nat} {x : α} (hx : l[j]? = some x) : ((l.flatMap f).drop (j * k)).take k = f x := by
  rw [flat_drop hf]
  obtain ⟨hj, rfl⟩ := List.getElem?_eq_some_iff.1 hx
  rw [List.drop_eq_getElem_cons hj, List.flatMap_cons]
  have := hf l[j]
  rw [List.take_append_of_le_length (by omega), ← this, List.take_length]
theorem flat_at' {α : Type} {f : α → List Value} {k : Nat} (hf : ∀ x, (f x).length = k) (l : List α) {j i : Nat} {x : α} (hx : l[j]? = some x) (hi : i < k) : (l.flatMap f)[j * k + i]? = (f x)[i]? := by
  have := flat_at hf l hx
  rw [← this, List.getElem?_take, if_pos hi, List.getElem?_drop]

/-! The same words, so that what cannot go on yet is not gone over. -/
def bindR (x : Option Value) (R : Value → Mem → Prop) (m : Mem) : Prop := match x with
  | some v => R v m
  | none => False
def callR (P : Program) (w0 : World) (x : Option (FuncId × List Value)) (m : Mem) (R : Value → Mem → Prop) : Prop := match x with
  | some (f, args) => AbC P w0 f args m R
  | none => False
def condR (P : Program) (w0 : World) (v : Value) (a b : RC) (Q : AQ) (ts : Fr) (m : Mem) : Prop := match v with
  | .bool true => AbW P w0 a Q ts m
  | .bool false => AbW P w0 b Q ts m
  | _ => False
def guardR (P : Program) (w0 : World) (g : Bool) (k : RK) (R : Fr → Mem → Prop) (d : Option Nat) (stab : List (Nat × Option (Nat × Bool) × RO)) (rest : List Sp) (ts : Fr) (m : Mem) : Prop :=
  if g = true then SK P w0 k ts m (contK (RS P w0 R rest) d stab ts) else RS P w0 R rest (updo ts d undef) m
def wantB (v : Value) (b : Bool) : Bool := match v with
  | .bool c => c == b
  | _ => false
def slen : Value → Option Value
  | .slice _ n _ => some (.int .i64 n)
  | _ => none
def sidx (sz : Nat) : Value → Value → Option Value
  | .slice (some ⟨b, o, none⟩) n _, .int _ j => if 0 ≤ j ∧ j < (n : Int) then some (.pointer (some ⟨b, o + j.toNat * sz, none⟩)) else none
  | _, _ => none
section
variable {P : Program} {w0 : World} {ts : Fr} {m : Mem} {R : Value → Mem → Prop} {K : Fr → Mem → Prop} {Q : AQ} {v : Value}
theorem bindR_some : bindR (some v) R m = R v m := rfl
theorem SK_rr {o : RO} : SK P w0 (.r o) ts m R = bindR (dR ts m o) R m := rfl
theorem callR_some {f : FuncId} {args : List Value} : callR P w0 (some (f, args)) m R = AbC P w0 f args m R := rfl
theorem SK_cc {o : CO} : SK P w0 (.c o) ts m R = callR P w0 (dC P ts o) m R := rfl
theorem condR_true {a b : RC} : condR P w0 (.bool true) a b Q ts m = AbW P w0 a Q ts m := rfl
theorem condR_false {a b : RC} : condR P w0 (.bool false) a b Q ts m = AbW P w0 b Q ts m := rfl
theorem AbW_condR {c : Operand} {a b : RC} : AbW P w0 (.cond c a b) Q ts m = condR P w0 (ev ts c) a b Q ts m := rfl
theorem guardR_true {k : RK} {d : Option Nat} {stab : List (Nat × Option (Nat × Bool) × RO)} {rest : List Sp} : guardR P w0 true k K d stab rest ts m = SK P w0 k ts m (contK (RS P w0 K rest) d stab ts) := rfl
theorem guardR_false {k : RK} {d : Option Nat} {stab : List (Nat × Option (Nat × Bool) × RO)} {rest : List Sp} : guardR P w0 false k K d stab rest ts m = RS P w0 K rest (updo ts d undef) m := rfl
theorem RS_consG {d : Option Nat} {g : Option (Nat × Bool)} {k : RK} {stab : List (Nat × Option (Nat × Bool) × RO)} {rest : List Sp} : RS P w0 K (⟨d, g, k, stab⟩ :: rest) ts m = guardR P w0 (wantD g ts) k K d stab rest ts m := rfl
variable {ro : List RO} {S : Value → Mem → Prop}
theorem bodyA_normalR : bodyA ro S .normal ts m = bindR (retV ts m ro) S m := rfl
theorem bodyA_retR : bodyA ro S .ret ts m = bindR (retV ts m ro) S m := rfl
theorem dR_lenl {x : Operand} : dR ts m (.lenl x) = slen (ev ts x) := rfl
theorem dR_ia {sz : Nat} {x i : Operand} : dR ts m (.ia sz x i) = sidx sz (ev ts x) (ev ts i) := rfl
theorem slen_sl {a : Option Addr} {n c : Nat} : slen (.slice a n c) = some (.int .i64 n) := rfl
theorem sidx_at {b o n c j sz : Nat} {k : IntKind} (h : j < n) : sidx sz (.slice (some ⟨b, o, none⟩) n c) (.int k (j : Int)) = some (.pointer (some ⟨b, o + j * sz, none⟩)) := by
  simp only [sidx]
  rw [if_pos (by omega)]
  simp
theorem wantD_none : wantD none ts = true := rfl
theorem wantD_some {s : Nat} {b : Bool} : wantD (some (s, b)) ts = wantB (ts s) b := rfl
theorem wantB_bool {b c : Bool} : wantB (.bool c) b = (c == b) := rfl
theorem wantB_undef {b : Bool} : wantB undef b = false := rfl
end
theorem SlO.slen {m : Mem} {e sz n : Nat} {ob : Option Nat} {cs : List Value} (h : SlO m e sz ob cs n) : slen (slV ob n sz) = some (.int .i64 n) := by
  cases ob with
  | none => rw [h.2]; rfl
  | some b => rfl
theorem SlR.slen {m : Mem} {sz n : Nat} {v : Value} {cs : List Value} (h : SlR m sz v cs n) : slen v = some (.int .i64 n) := by
  rcases h.2 with ⟨rfl, rfl | rfl⟩ | ⟨i, o, L, rfl, _⟩ <;> rfl
theorem slV_some {b n sz : Nat} : slV (some b) n sz = .slice (some ⟨b, 0, none⟩) n sz := rfl
/-- The text of a slice of bytes. -/
def bstr (m : Mem) : Value → Option Value
  | .slice none _ _ => some (.string .empty)
  | .slice (some ⟨_, _, some _⟩) _ _ => some (.string .empty)
  | .slice (some ⟨i, o, none⟩) n _ => match m.row i o n with
    | some cs => match bytesOf cs with
      | some bs => some (.string ⟨bs.toArray⟩)
      | none => none
    | none => none
  | _ => none
theorem dR_b2s {ts : Fr} {m : Mem} {x : Operand} : dR ts m (.b2s x) = bstr m (ev ts x) := rfl
end Go.Proofs.YtgfkjldohilmkaaDoor.Ab
