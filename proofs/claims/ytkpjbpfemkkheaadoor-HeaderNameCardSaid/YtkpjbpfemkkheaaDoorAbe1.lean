/- A call of a function over a memory that is told as a list: run by reckoning, and that it then holds over the abstract memory. -/
import Derived.Test.YtkpjbpfemkkheaaDoorAb17
set_option linter.unusedVariables false
set_option linter.unusedSimpArgs false
namespace Go.Proofs.YtkpjbpfemkkheaaDoor.Ab
open Go Go.RowKit

/-! Frames and memories as lists. -/
def nthV : List Value → Nat → Value
  | [], _ => undef
  | v :: _, 0 => v
  | _ :: l, k + 1 => nthV l k
def lfr (l : List Value) : Fr := nthV l
def lset : List Value → Nat → Value → List Value
  | [], 0, v => [v]
  | [], d + 1, v => undef :: lset [] d v
  | _ :: l, 0, v => v :: l
  | x :: l, d + 1, v => x :: lset l d v
theorem nthV_nil (k : Nat) : nthV [] k = undef := by cases k <;> rfl
theorem nthV_lset : ∀ (l : List Value) (d : Nat) (v : Value) (k : Nat), nthV (lset l d v) k = if k = d then v else nthV l k
  | [], 0, v, 0 => rfl
  | [], 0, v, k + 1 => by simp [lset, nthV, nthV_nil]
  | [], d + 1, v, 0 => by simp [lset, nthV]
  | [], d + 1, v, k + 1 => by simp [lset, nthV, nthV_lset [] d v k]
  | x :: l, 0, v, 0 => rfl
  | x :: l, 0, v, k + 1 => by simp [lset, nthV]
  | x :: l, d + 1, v, 0 => by simp [lset, nthV]
  | x :: l, d + 1, v, k + 1 => by simp [lset, nthV, nthV_lset l d v k]
theorem lfr_set (l : List Value) (d : Nat) (v : Value) : lfr (lset l d v) = upd (lfr l) d v := by
  funext k
  simp only [lfr, upd, nthV_lset]
def lseto (l : List Value) (d : Option Nat) (v : Value) : List Value := match d with
  | some d => lset l d v
  | none => l
theorem lfr_seto (l : List Value) (d : Option Nat) (v : Value) : lfr (lseto l d v) = updo (lfr l) d v := by
  cases d with
  | none => rfl
  | some d => exact lfr_set l d v
theorem lfr_args (l : List Value) : lfr l = frA l := by
  funext k
  simp only [lfr, frA, List.getD_eq_getElem?_getD]
  induction l generalizing k with
  | nil => simp [nthV_nil]
  | cons x l ih => cases k with
    | zero => rfl
    | succ k => simp [nthV, ih k]

structure LM where
  n : Nat
  es : List Ent
def nthE : List Ent → Nat → Ent
  | [], _ => .dead
  | e :: _, 0 => e
  | _ :: l, k + 1 => nthE l k
def LM.get (L : LM) (i : Nat) : Ent := match Nat.blt i L.n with
  | true => nthE L.es (L.n - 1 - i)
  | false => .dead
def toMem (L : LM) : Mem := ⟨L.n, L.get⟩
def LM.push (L : LM) (e : Ent) : LM := ⟨L.n + 1, e :: L.es⟩
def setE : List Ent → Nat → Ent → Option (List Ent)
  | [], _, _ => none
  | _ :: l, 0, e => some (e :: l)
  | x :: l, k + 1, e => match setE l k e with
    | some l' => some (x :: l')
    | none => none
def LM.set (L : LM) (i : Nat) (e : Ent) : Option LM := match Nat.blt i L.n with
  | true => match setE L.es (L.n - 1 - i) e with
    | some es => some ⟨L.n, es⟩
    | none => none
  | false => none
theorem blt_true {a b : Nat} : Nat.blt a b = true ↔ a < b := by simp [Nat.blt]; omega
theorem blt_false {a b : Nat} : Nat.blt a b = false ↔ ¬ a < b := by
  rw [← Bool.not_eq_true, blt_true]
theorem LM.get_lt {L : LM} {i : Nat} (h : i < L.n) : L.get i = nthE L.es (L.n - 1 - i) := by unfold LM.get; rw [blt_true.2 h]
theorem LM.get_ge {L : LM} {i : Nat} (h : ¬ i < L.n) : L.get i = .dead := by unfold LM.get; rw [blt_false.2 h]
theorem toMem_push (L : LM) (e : Ent) : toMem (L.push e) = (toMem L).push e := by
  unfold toMem LM.push Mem.push
  congr 1
  funext k
  show LM.get ⟨L.n + 1, e :: L.es⟩ k = if k = L.n then e else L.get k
  by_cases h1 : k = L.n
  · subst h1
    rw [LM.get_lt (by show L.n < L.n + 1; omega)]
    show nthE (e :: L.es) (L.n + 1 - 1 - L.n) = _
    rw [if_pos rfl, show L.n + 1 - 1 - L.n = 0 from by omega]; rfl
  · rw [if_neg h1]
    by_cases h2 : k < L.n
    · rw [LM.get_lt h2, LM.get_lt (by show k < L.n + 1; omega)]
      show nthE (e :: L.es) (L.n + 1 - 1 - k) = _
      rw [show L.n + 1 - 1 - k = (L.n - 1 - k) + 1 from by omega]; rfl
    · rw [LM.get_ge h2, LM.get_ge (by show ¬ k < L.n + 1; omega)]
theorem nthE_setE : ∀ (l : List Ent) (k : Nat) (e : Ent) (l' : List Ent), setE l k e = some l' → ∀ j, nthE l' j = if j = k then e else nthE l j
  | [], k, e, l', h => by cases h
  | x :: l, 0, e, l', h => by
    simp [setE] at h; subst h
    intro j; cases j <;> simp [nthE]
  | x :: l, k + 1, e, l', h => by
    simp only [setE] at h
    split at h
    · rename_i l2 h2
      simp at h; subst h
      intro j
      cases j with
      | zero => simp [nthE]
      | succ j => simp [nthE, nthE_setE l k e l2 h2 j]
    · cases h
theorem toMem_set {L L' : LM} {i : Nat} {e : Ent} (h : L.set i e = some L') : toMem L' = (toMem L).set i e := by
  unfold LM.set at h
  split at h
  · rename_i hlt
    rw [blt_true] at hlt
    split at h
    · rename_i es hes
      simp at h; subst h
      unfold toMem Mem.set
      congr 1
      funext k
      show LM.get ⟨L.n, es⟩ k = if k = i then e else L.get k
      by_cases h2 : k < L.n
      · rw [LM.get_lt h2, LM.get_lt (by exact h2)]
        show nthE es (L.n - 1 - k) = _
        rw [nthE_setE _ _ _ _ hes]
        by_cases h3 : k = i
        · subst h3; simp
        · rw [if_neg h3, if_neg (by omega)]
      · rw [LM.get_ge h2, LM.get_ge (by exact h2), if_neg (by omega)]
    · cases h
  · cases h

/-! Values are put into a plain form. -/
section
variable {α : Type}
def frcN (n : Nat) (k : Nat → α) : α := match n with
  | 0 => k 0
  | m + 1 => k (Nat.succ m)
theorem frcN_eq (n : Nat) (k : Nat → α) : frcN n k = k n := by cases n <;> rfl
def frcI (n : Int) (k : Int → α) : α := match n with
  | .ofNat m => frcN m fun m => k (.ofNat m)
  | .negSucc m => frcN m fun m => k (.negSucc m)
theorem frcI_eq (n : Int) (k : Int → α) : frcI n k = k n := by cases n <;> simp [frcI, frcN_eq]
def frcB : List UInt8 → (List UInt8 → α) → α
  | [], k => k []
  | b :: l, k => frcN b.toNat fun n => frcB l fun l => k (UInt8.ofNat n :: l)
theorem frcB_eq : ∀ (l : List UInt8) (k : List UInt8 → α), frcB l k = k l
  | [], k => rfl
  | b :: l, k => by simp [frcB, frcN_eq, frcB_eq l]
def frcBo (b : Bool) (k : Bool → α) : α := match b with
  | true => k true
  | false => k false
theorem frcBo_eq (b : Bool) (k : Bool → α) : frcBo b k = k b := by cases b <;> rfl
def frcA (a : Option Addr) (k : Option Addr → α) : α := match a with
  | none => k none
  | some ⟨b, o, none⟩ => frcN b fun b => frcN o fun o => k (some ⟨b, o, none⟩)
  | some ⟨b, o, some s⟩ => frcN b fun b => frcN o fun o => frcN s fun s => k (some ⟨b, o, some s⟩)
theorem frcA_eq (a : Option Addr) (k : Option Addr → α) : frcA a k = k a := by
  unfold frcA; split <;> simp [frcN_eq]
def frcL (f : Value → (Value → α) → α) : List Value → (List Value → α) → α
  | [], k => k []
  | v :: l, k => f v fun v => frcL f l fun l => k (v :: l)
theorem frcL_eq {f : Value → (Value → α) → α} (hf : ∀ v k, f v k = k v) : ∀ (l : List Value) (k : List Value → α), frcL f l k = k l
  | [], k => rfl
  | v :: l, k => by simp [frcL, hf, frcL_eq hf l]
def frcV : Nat → Value → (Value → α) → α
  | 0, v, k => k v
  | d + 1, v, k => match v with
    | .bool b => frcBo b fun b => k (.bool b)
    | .int t n => frcI n fun n => k (.int t n)
    | .string ⟨⟨l⟩⟩ => frcB l fun l => k (.string ⟨⟨l⟩⟩)
    | .pointer a => frcA a fun a => k (.pointer a)
    | .slice a n c => frcA a fun a => frcN n fun n => frcN c fun c => k (.slice a n c)
    | .iface t v => frcV d v fun v => k (.iface t v)
    | .agg ⟨l⟩ => frcL (frcV d) l fun l => k (.agg ⟨l⟩)
    | .tuple ⟨l⟩ => frcL (frcV d) l fun l => k (.tuple ⟨l⟩)
    | .func fn ⟨f⟩ ⟨c⟩ => frcL (frcV d) f fun f => frcL (frcV d) c fun c => k (.func fn ⟨f⟩ ⟨c⟩)
    | v => k v
theorem frcV_eq : ∀ (d : Nat) (v : Value) (k : Value → α), frcV d v k = k v
  | 0, v, k => rfl
  | d + 1, v, k => by
    unfold frcV
    split <;> simp [frcBo_eq, frcI_eq, frcB_eq, frcA_eq, frcN_eq, frcV_eq d, frcL_eq (fun v k => frcV_eq d v k)]
def frcE (e : Ent) (k : Ent → α) : α := match e with
  | .own cs t => frcL (frcV 5) cs fun cs => k (.own cs t)
  | e => k e
theorem frcE_eq (e : Ent) (k : Ent → α) : frcE e k = k e := by
  unfold frcE; split <;> simp [frcL_eq (fun v k => frcV_eq 5 v k)]
end

/-! What an operation does with the memory. -/
inductive MO where
  | keep
  | push (e : Ent)
  | set (i : Nat) (e : Ent)
  | move (i : Nat) (e : Ent)
def MO.app (m : Mem) : MO → Mem
  | .keep => m
  | .push e => m.push e
  | .set i e => m.set i e
  | .move i e => (m.set i .dead).push e
def MO.appL (L : LM) : MO → Option LM
  | .keep => some L
  | .push e => frcE e fun e => some (L.push e)
  | .set i e => frcE e fun e => L.set i e
  | .move i e => match L.set i .dead with
    | some L => frcE e fun e => some (L.push e)
    | none => none
theorem MO.appL_eq {L L' : LM} {o : MO} (h : o.appL L = some L') : toMem L' = o.app (toMem L) := by
  cases o with
  | keep => simp [MO.appL] at h; subst h; rfl
  | push e => simp [MO.appL, frcE_eq] at h; subst h; exact toMem_push L e
  | set i e => simp only [MO.appL, frcE_eq] at h; exact toMem_set h
  | move i e =>
    simp only [MO.appL] at h
    split at h
    · rename_i L1 h1
      simp [frcE_eq] at h; subst h
      rw [toMem_push, toMem_set h1]; rfl
    · cases h

def effE (ts : Fr) (m : Mem) : EO → Option (Value × MO)
  | .al zero e => some (.pointer (some ⟨m.next, 0, none⟩), .push (.own zero e))
  | .bx e x => some (.pointer (some ⟨m.next, 0, none⟩), .push (.own (cellsV (ev ts x)) e))
  | .bsl e sz len zero parts => match fillD ts parts zero with
    | some cs => if cs.length = len * sz then some (.slice (some ⟨m.next, 0, none⟩) len sz, .push (.own cs e)) else none
    | none => none
  | .st n p x => match ev ts p with
    | .pointer (some ⟨i, o, none⟩) => match m.get i with
      | .own cs e => if o + n ≤ cs.length ∧ (cellsV (ev ts x)).length = n ∧ (cellsV (ev ts x)).all oneC = true then some (undef, .set i (.own (putAt cs o (cellsV (ev ts x))) e)) else none
      | _ => none
    | _ => none
  | .app e sz bytes x y => match elemsV m sz (ev ts y) with
    | none => none
    | some ys => if lenV (ev ts y) = 0 then (match ev ts x with | .slice a n c => some (.slice a n c, .keep) | _ => none) else
      if ys.all oneC = true ∧ (lenV (ev ts x) + lenV (ev ts y)) * bytes ≤ 140737488355328 ∧ lenV (ev ts x) + lenV (ev ts y) ≤ maxLen then
        match ev ts x with
        | .slice none _ _ => some (.slice (some ⟨m.next, 0, none⟩) (lenV (ev ts y)) sz, .push (.own ys e))
        | .slice (some ⟨i, o, none⟩) n z => match m.get i with
          | .own cs e' => if o + n * sz ≤ cs.length ∧ z = sz ∧ e' = e ∧ o % sz = 0 then
              some (.slice (some ⟨m.next, 0, none⟩) (n + lenV (ev ts y)) sz, .move i (.own ((cs.drop o).take (n * sz) ++ ys) e))
            else none
          | _ => none
        | _ => none
      else none
  | .mks e bytes zero n c => match ev ts n, ev ts c with
    | .int .i64 a, .int .i64 b => if 0 ≤ a ∧ a ≤ b ∧ bytes * b ≤ 140737488355328 ∧ b ≤ (maxLen : Nat) then
        some (.slice (some ⟨m.next, 0, none⟩) a.toNat 1, .push (.own (List.replicate a.toNat zero) e))
      else none
    | _, _ => none
  | .s2b e x => match ev ts x with
    | .string s => if s.size ≤ 140737488355328 then some (.slice (some ⟨m.next, 0, none⟩) s.size 1, .push (.own (s.data.toList.map byteV) e)) else none
    | _ => none
  | .cpy sz x y => match elemsV m sz (ev ts y), ev ts x with
    | some ys, .slice (some ⟨i, o, none⟩) n _ => match m.get i with
      | .own cs e => if o + min (lenV (ev ts y)) n * sz ≤ cs.length ∧ ys.all oneC = true then
          some (.int .i64 (min (lenV (ev ts y)) n : Nat), .set i (.own (putAt cs o (ys.take (min (lenV (ev ts y)) n * sz))) e)) else none
      | _ => none
    | some ys, .slice _ 0 _ => some (.int .i64 0, .keep)
    | _, _ => none
  | .ust e p n => match ev ts p, ev ts n with
    | .pointer none, .int .i64 k => if k = 0 then some (.string .empty, .keep) else none
    | .pointer (some ⟨i, o, none⟩), .int .i64 k => if k = 0 then some (.string .empty, .keep) else if 0 < k ∧ k ≤ 9223372036854775807 then match m.get i with
      | .own cs e' => if e' = e ∧ o + k.toNat ≤ cs.length then match bytesOf ((cs.drop o).take k.toNat) with
          | some bs => some (.string ⟨bs.toArray⟩, .set i .dead)
          | none => none
        else none
      | _ => none else none
    | _, _ => none

theorem effE_eq {ts : Fr} {m : Mem} {o : EO} {v : Value} {q : MO} (h : effE ts m o = some (v, q)) : dE ts m o = some (v, q.app m) := by
  cases o <;> simp only [effE] at h <;> simp only [dE]
  case al => simp at h; obtain ⟨rfl, rfl⟩ := h; rfl
  case bx => simp at h; obtain ⟨rfl, rfl⟩ := h; rfl
  all_goals
    repeat' split at h
    all_goals first
      | (cases h; done)
      | (simp only [Option.some.injEq, Prod.mk.injEq] at h
         obtain ⟨rfl, rfl⟩ := h
         simp_all [MO.app]
         done)

def eE (l : List Value) (L : LM) (o : EO) : Option (Value × LM) := match effE (lfr l) (toMem L) o with
  | some (v, q) => match q.appL L with
    | some L' => some (v, L')
    | none => none
  | none => none
theorem eE_eq {l : List Value} {L L' : LM} {o : EO} {v : Value} (h : eE l L o = some (v, L')) : dE (lfr l) (toMem L) o = some (v, toMem L') := by
  unfold eE at h
  split at h
  · rename_i v' q hq
    split at h
    · rename_i L1 h1
      simp at h
      obtain ⟨rfl, rfl⟩ := h
      rw [effE_eq hq, MO.appL_eq h1]
    · cases h
  · cases h

/-! What looks and reckons; texts by their lists. -/
theorem bApp_eq (a b : List UInt8) : (ByteArray.mk ⟨a⟩) ++ (ByteArray.mk ⟨b⟩) = ByteArray.mk ⟨a ++ b⟩ := by
  apply ByteArray.ext
  simp
theorem bExt_eq (a : List UInt8) (i j : Nat) : (ByteArray.mk ⟨a⟩).extract i j = ByteArray.mk ⟨(a.take j).drop i⟩ := by
  apply ByteArray.ext
  apply Array.ext'
  simp [List.drop_take]

def eR (l : List Value) (L : LM) (o : RO) : Option Value := match o with
  | .bin .add x y => match ev (lfr l) x, ev (lfr l) y with
    | .string ⟨⟨a⟩⟩, .string ⟨⟨b⟩⟩ => if a.length + b.length ≤ 9223372036854775807 then some (.string ⟨⟨a ++ b⟩⟩) else none
    | x, y => dBin .add x y
  | .sls x lo hi => match ev (lfr l) x with
    | .string ⟨⟨s⟩⟩ => match bnd (lfr l) hi s.length s.length with
      | none => none
      | some h => match bnd (lfr l) lo 0 h with
        | none => none
        | some q => some (.string ⟨⟨(s.take h).drop q⟩⟩)
    | _ => none
  | o => dR (lfr l) (toMem L) o

theorem eR_eq {l : List Value} {L : LM} {o : RO} {v : Value} (h : eR l L o = some v) : dR (lfr l) (toMem L) o = some v := by
  unfold eR at h
  split at h
  · rename_i x y
    simp only [dR]
    split at h
    · rename_i a b h1 h2
      rw [h1, h2]
      split at h
      · rename_i hl
        simp at h; subst h
        simp only [dBin]
        rw [if_pos (by exact hl), bApp_eq]
      · cases h
    · exact h
  · rename_i x lo hi
    simp only [dR]
    split at h
    · rename_i s h1
      rw [h1]
      have e : (ByteArray.mk ⟨s⟩).size = s.length := rfl
      simp only [e]
      split at h
      · cases h
      · rename_i h2 h3
        rw [h3]
        simp only []
        split at h
        · cases h
        · rename_i q h4
          rw [h4]
          simp only []
          rw [bExt_eq]
          exact h
    · cases h
  · exact h

/-! Equal values. -/
def eqB : List UInt8 → List UInt8 → Bool
  | [], [] => true
  | a :: l, b :: r => Nat.beq a.toNat b.toNat && eqB l r
  | _, _ => false
theorem eqB_eq : ∀ {a b : List UInt8}, eqB a b = true → a = b
  | [], [], _ => rfl
  | a :: l, b :: r, h => by
    simp only [eqB, Bool.and_eq_true] at h
    rw [UInt8.toNat_inj.1 (Nat.eq_of_beq_eq_true h.1), eqB_eq h.2]
  | [], _ :: _, h => by cases h
  | _ :: _, [], h => by cases h
def eqL (f : Value → Value → Bool) : List Value → List Value → Bool
  | [], [] => true
  | a :: l, b :: r => f a b && eqL f l r
  | _, _ => false
theorem eqL_eq {f : Value → Value → Bool} (hf : ∀ a b, f a b = true → a = b) : ∀ {a b : List Value}, eqL f a b = true → a = b
  | [], [], _ => rfl
  | a :: l, b :: r, h => by
    simp only [eqL, Bool.and_eq_true] at h
    rw [hf _ _ h.1, eqL_eq hf h.2]
  | [], _ :: _, h => by cases h
  | _ :: _, [], h => by cases h
def eqV : Nat → Value → Value → Bool
  | 0, _, _ => false
  | d + 1, .bool a, .bool b => a == b
  | d + 1, .int k a, .int k' b => k == k' && decide (a = b)
  | d + 1, .string ⟨⟨a⟩⟩, .string ⟨⟨b⟩⟩ => eqB a b
  | d + 1, .pointer a, .pointer b => decide (a = b)
  | d + 1, .slice a n c, .slice b n' c' => decide (a = b) && decide (n = n') && decide (c = c')
  | d + 1, .nilIface, .nilIface => true
  | d + 1, .nilFunc, .nilFunc => true
  | d + 1, .map a, .map b => decide (a = b)
  | d + 1, .iface t a, .iface t' b => decide (t = t') && eqV d a b
  | d + 1, .agg ⟨a⟩, .agg ⟨b⟩ => eqL (eqV d) a b
  | d + 1, .tuple ⟨a⟩, .tuple ⟨b⟩ => eqL (eqV d) a b
  | _, _, _ => false
theorem eqV_eq : ∀ (d : Nat) (a b : Value), eqV d a b = true → a = b
  | 0, a, b, h => by simp [eqV] at h
  | d + 1, a, b, h => by
    unfold eqV at h
    split at h <;> simp_all
    · exact eqB_eq h
    · exact eqV_eq _ _ _ h.2
    · exact eqL_eq (fun a b h => eqV_eq _ a b h) h
    · exact eqL_eq (fun a b h => eqV_eq _ a b h) h

def eqO (a : Option Value) (b : Value) : Bool := match a with
  | some a => eqV 6 a b
  | none => false
def stabB (l : List Value) (L : LM) : List (Nat × Option (Nat × Bool) × RO) → Bool
  | [] => true
  | (d, g, o) :: rest => (!(wantD g (lfr l)) || eqO (eR l L o) (nthV l d)) && stabB l L rest
theorem stabB_ok {l : List Value} {L : LM} : ∀ {st : List (Nat × Option (Nat × Bool) × RO)}, stabB l L st = true → stabOk (lfr l) (toMem L) st
  | [], _ => trivial
  | (d, g, o) :: rest, h => by
    simp only [stabB, Bool.and_eq_true, Bool.or_eq_true, Bool.not_eq_true'] at h
    refine ⟨?_, stabB_ok h.2⟩
    rcases h.1 with h1 | h1
    · rw [h1]; simp
    · split
      · unfold eqO at h1
        split at h1
        · rename_i a ha
          rw [eR_eq ha, eqV_eq _ _ _ h1]; rfl
        · cases h1
      · trivial

/-! The run. -/
abbrev CallE := FuncId → List Value → LM → Option (Value × LM)
def stepK (call : CallE) (P : Program) (k : RK) (l : List Value) (L : LM) : Option (Value × LM) := match k with
  | .r o => match eR l L o with
    | some v => some (v, L)
    | none => none
  | .a x => some (ev (lfr l) x, L)
  | .e o => eE l L o
  | .c o => match dC P (lfr l) o with
    | some (f, args) => call f args L
    | none => none
  | .bad => none

def runS (call : CallE) (P : Program) : List Sp → List Value → LM → Option (List Value × LM)
  | [], l, L => some (l, L)
  | s :: rest, l, L => match wantD s.g (lfr l) with
    | true => match stepK call P s.k l L with
      | some (v, L') => frcV 6 v fun v => match stabB (lseto l s.d v) L' s.stab with
        | true => runS call P rest (lseto l s.d v) L'
        | false => none
      | none => none
    | false => runS call P rest (lseto l s.d undef) L

abbrev RunE := RC → List Value → LM → Option (Exit × List Value × LM)
def stepC (rec : RunE) (call : CallE) (P : Program) : RunE
  | .skip, l, L => some (.normal, l, L)
  | .run sp, l, L => match runS call P sp l L with
    | some (l', L') => some (.normal, l', L')
    | none => none
  | .seq a b, l, L => match rec a l L with
    | some (.normal, l', L') => rec b l' L'
    | r => r
  | .cond c x y, l, L => match ev (lfr l) c with
    | .bool true => rec x l L
    | .bool false => rec y l L
    | _ => none
  | .block id b, l, L => match rec b l L with
    | some (.exit i, l', L') => match Nat.beq i id with
      | true => some (.normal, l', L')
      | false => some (.exit i, l', L')
    | r => r
  | .loop b, l, L => match rec b l L with
    | some (.normal, l', L') => rec (.loop b) l' L'
    | r => r
  | .exit id, l, L => some (.exit id, l, L)
  | .scope b, l, L => match rec b l L with
    | some (.goto _, _, _) => none
    | r => r
  | .label _, l, L => some (.normal, l, L)
  | .goto k, l, L => some (.goto k, l, L)
  | .ret, l, L => some (.ret, l, L)
  | .stop, _, _ => none

/-- A function of the table: its number, how many slots, its code, its results. -/
structure TE where
  f : FuncId
  N : Nat
  rc : RC
  ro : List RO
def findT : List TE → FuncId → Option TE
  | [], _ => none
  | t :: r, f => match Nat.beq t.f f with
    | true => some t
    | false => findT r f
def endE (ro : List RO) : Option (Exit × List Value × LM) → Option (Value × LM)
  | some (.normal, l, L) | some (.ret, l, L) => match retV (lfr l) (toMem L) ro with
    | some v => frcV 6 v fun v => some (v, L)
    | none => none
  | _ => none
def callF (T : List TE) (X : CallE) (rec : RunE) : CallE := fun f args L => match findT T f with
  | some t => match Nat.ble args.length t.N with
    | true => endE t.ro (rec t.rc args L)
    | false => none
  | none => X f args L
def runC (T : List TE) (X : CallE) (P : Program) : Nat → RunE
  | 0 => fun _ _ _ => none
  | n + 1 => stepC (runC T X P n) (callF T X (runC T X P n)) P

/-! That it holds. -/
def XOk (P : Program) (X : CallE) : Prop := ∀ w0 f args L v L', X f args L = some (v, L') → ∀ Q : Value → Mem → Prop, Q v (toMem L') → AbC P w0 f args (toMem L) Q
def TOk (P : Program) (T : List TE) : Prop := ∀ t ∈ T, ∃ certs, okFn P t.f t.N certs = some (t.rc, t.ro)

section
variable {P : Program} {w0 : World}
def CallOk (P : Program) (w0 : World) (call : CallE) : Prop := ∀ f args L v L', call f args L = some (v, L') → ∀ Q : Value → Mem → Prop, Q v (toMem L') → AbC P w0 f args (toMem L) Q
def RunOk (P : Program) (w0 : World) (run : RunE) : Prop := ∀ rc l L e l' L', run rc l L = some (e, l', L') → ∀ Q : AQ, Q e (lfr l') (toMem L') → AbW P w0 rc Q (lfr l) (toMem L)

theorem stepK_ok {call : CallE} (hc : CallOk P w0 call) {k : RK} {l : List Value} {L L' : LM} {v : Value} (h : stepK call P k l L = some (v, L')) {R : Value → Mem → Prop} (hR : R v (toMem L')) : SK P w0 k (lfr l) (toMem L) R := by
  unfold stepK at h
  unfold SK
  split at h
  · split at h
    · rename_i o v' hv
      simp at h; obtain ⟨rfl, rfl⟩ := h
      simp only [eR_eq hv]; exact hR
    · cases h
  · simp at h; obtain ⟨rfl, rfl⟩ := h
    exact hR
  · simp only [eE_eq h]; exact hR
  · split at h
    · rename_i o f args hd
      simp only [hd]
      exact hc _ _ _ _ _ h R hR
    · cases h
  · cases h

theorem runS_ok {call : CallE} (hc : CallOk P w0 call) : ∀ (sp : List Sp) (l : List Value) (L : LM) (l' : List Value) (L' : LM), runS call P sp l L = some (l', L') → ∀ K : Fr → Mem → Prop, K (lfr l') (toMem L') → RS P w0 K sp (lfr l) (toMem L)
  | [], l, L, l', L', h, K, hK => by
    simp [runS] at h; obtain ⟨rfl, rfl⟩ := h
    exact hK
  | s :: rest, l, L, l', L', h, K, hK => by
    unfold runS at h
    unfold RS
    split at h
    · rename_i hw
      rw [if_pos hw]
      split at h
      · rename_i v L1 hk
        rw [frcV_eq] at h
        split at h
        · rename_i hst
          refine stepK_ok hc hk ?_
          refine ⟨?_, ?_⟩
          · rw [← lfr_seto]; exact stabB_ok hst
          · rw [← lfr_seto]; exact runS_ok hc rest _ _ _ _ h K hK
        · cases h
      · cases h
    · rename_i hw
      rw [if_neg (by rw [hw]; simp), ← lfr_seto]
      exact runS_ok hc rest _ _ _ _ h K hK

theorem callF_ok {T : List TE} {X : CallE} (hT : TOk P T) (hX : XOk P X) {run : RunE} (hr : RunOk P w0 run) : CallOk P w0 (callF T X run) := by
  intro f args L v L' h Q hQ
  unfold callF at h
  split at h
  · rename_i t ht
    have hmem : ∀ (T : List TE), findT T f = some t → t ∈ T ∧ t.f = f := by
      intro T
      induction T with
      | nil => intro h; cases h
      | cons x r ih =>
        intro h
        unfold findT at h
        split at h
        · rename_i hb
          simp at h; subst h
          exact ⟨by simp, by simpa using hb⟩
        · exact ⟨by simp [(ih h).1], (ih h).2⟩
    obtain ⟨h1, rfl⟩ := hmem T ht
    obtain ⟨certs, hok⟩ := hT t h1
    split at h
    case h_2 => cases h
    rename_i hle
    refine AbC_fn hok (Nat.le_of_ble_eq_true hle) ?_
    rw [← lfr_args]
    have fin : ∀ e l1 L1, run t.rc args L = some (e, l1, L1) → (e = .normal ∨ e = .ret) → (match retV (lfr l1) (toMem L1) t.ro with | some v => frcV 6 v fun v => some (v, L1) | none => none) = some (v, L') → AbW P w0 t.rc (bodyA t.ro Q) (lfr args) (toMem L) := by
      intro e l1 L1 h1 he h
      refine hr _ _ _ _ _ _ h1 _ ?_
      split at h
      · rename_i v' hv
        rw [frcV_eq] at h
        simp at h
        obtain ⟨rfl, rfl⟩ := h
        rcases he with rfl | rfl <;> simp [bodyA, hv, hQ]
      · cases h
    unfold endE at h
    split at h
    · rename_i l1 L1 h1
      exact fin _ _ _ h1 (.inl rfl) h
    · rename_i l1 L1 h1
      exact fin _ _ _ h1 (.inr rfl) h
    · cases h
  · exact hX w0 _ _ _ _ _ h Q hQ

theorem runC_ok {T : List TE} {X : CallE} (hT : TOk P T) (hX : XOk P X) : ∀ n, RunOk P w0 (runC T X P n) := by
  intro n
  induction n using Nat.strongRecOn with
  | _ n ih =>
    intro rc l L e l' L' h Q hQ
    cases n with
    | zero => simp [runC] at h
    | succ n =>
      have hn := ih n (by omega)
      have hc := callF_ok hT hX hn
      unfold runC at h
      unfold stepC at h
      cases rc with
      | skip => simp at h; obtain ⟨rfl, rfl, rfl⟩ := h; exact hQ
      | run sp =>
        simp only [] at h
        split at h
        · rename_i l1 L1 h1
          simp at h; obtain ⟨rfl, rfl, rfl⟩ := h
          exact runS_ok hc sp _ _ _ _ h1 _ hQ
        · cases h
      | seq a b =>
        simp only [] at h
        split at h
        · rename_i l1 L1 h1
          exact hn _ _ _ _ _ _ h1 _ (hn _ _ _ _ _ _ h Q hQ)
        · rename_i hne
          refine hn _ _ _ _ _ _ h _ ?_
          cases e with
          | normal => exact (hne _ _ h).elim
          | _ => exact hQ
      | cond c x y =>
        simp only [] at h
        unfold AbW
        split at h
        · rename_i hv
          simp only [hv]; exact hn _ _ _ _ _ _ h Q hQ
        · rename_i hv
          simp only [hv]; exact hn _ _ _ _ _ _ h Q hQ
        · cases h
      | block id b =>
        simp only [] at h
        show AbW P w0 b (inBlockA id Q) (lfr l) (toMem L)
        split at h
        · rename_i i l1 L1 h1
          refine hn _ _ _ _ _ _ h1 _ ?_
          split at h
          · rename_i hb
            simp at h; obtain ⟨rfl, rfl, rfl⟩ := h
            simp only [inBlockA]
            rw [if_pos (by simpa using hb)]; exact hQ
          · rename_i hb
            simp at h; obtain ⟨rfl, rfl, rfl⟩ := h
            simp only [inBlockA]
            rw [if_neg (Nat.ne_of_beq_eq_false hb)]; exact hQ
        · rename_i hne
          refine hn _ _ _ _ _ _ h _ ?_
          cases e with
          | exit i => exact (hne _ _ _ h).elim
          | _ => exact hQ
      | loop b =>
        refine ⟨fun k ts m => k ≤ n + 1 ∧ ∃ l L e l' L', ts = lfr l ∧ m = toMem L ∧ runC T X P k (.loop b) l L = some (e, l', L') ∧ Q e (lfr l') (toMem L'), n + 1, ⟨Nat.le_refl _, l, L, e, l', L', rfl, rfl, by unfold runC stepC; exact h, hQ⟩, ?_⟩
        rintro k ts m ⟨hk, l, L, e, l', L', rfl, rfl, h, hQ⟩
        cases k with
        | zero => simp [runC] at h
        | succ k =>
          have hk' := ih k (by omega)
          unfold runC stepC at h
          simp only [] at h
          split at h
          · rename_i l1 L1 h1
            exact hk' _ _ _ _ _ _ h1 _ ⟨k, by omega, by omega, l1, L1, e, l', L', rfl, rfl, h, hQ⟩
          · rename_i hne
            refine hk' _ _ _ _ _ _ h _ ?_
            cases e with
            | normal => exact (hne _ _ h).elim
            | _ => exact hQ
      | exit id => simp at h; obtain ⟨rfl, rfl, rfl⟩ := h; exact hQ
      | scope b =>
        simp only [] at h
        show AbW P w0 b (noGotoA Q) (lfr l) (toMem L)
        split at h
        · cases h
        · rename_i hne
          refine hn _ _ _ _ _ _ h _ ?_
          cases e with
          | goto i => exact (hne _ _ _ h).elim
          | _ => exact hQ
      | label k => simp at h; obtain ⟨rfl, rfl, rfl⟩ := h; exact hQ
      | goto k => simp at h; obtain ⟨rfl, rfl, rfl⟩ := h; exact hQ
      | ret => simp at h; obtain ⟨rfl, rfl, rfl⟩ := h; exact hQ
      | stop => cases h

/-- A call that is reckoned through. -/
def callE (T : List TE) (X : CallE) (P : Program) (n : Nat) : CallE := callF T X (runC T X P n)
theorem callE_ok {T : List TE} {X : CallE} (hT : TOk P T) (hX : XOk P X) (n : Nat) : CallOk P w0 (callE T X P n) := callF_ok hT hX (runC_ok hT hX n)
def outIs (v : Value) : Option (Value × LM) → Bool
  | some (u, _) => eqV 6 u v
  | none => false
theorem outIs_ok {v : Value} {r : Option (Value × LM)} (h : outIs v r = true) : ∃ L', r = some (v, L') := by
  unfold outIs at h
  split at h
  · rename_i u L'
    exact ⟨L', by rw [eqV_eq _ _ _ h]⟩
  · cases h
end
end Go.Proofs.YtkpjbpfemkkheaaDoor.Ab
