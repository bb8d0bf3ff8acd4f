/- A call of a function over a memory that is told as a list: run by reckoning, and that it then holds over the abstract memory. -/
import Derived.Test.YtgfkjldohilmkaaDoorAb17
set_option linter.unusedVariables false
set_option linter.unusedSimpArgs false
namespace Go.Proofs.YtgfkjldohilmkaaDoor.Ab
open Go Go.RowKit

/-! Slots in a tree, by the digits of their numbers, eight to a node. -/
inductive T8 (α : Type) where
  | e
  | n (a0 a1 a2 a3 a4 a5 a6 a7 : α)
section
variable {α β : Type}
noncomputable def sel8 (d : Nat) (a0 a1 a2 a3 a4 a5 a6 a7 : α) : α :=
  Bool.rec (Bool.rec (Bool.rec a7 a6 (Nat.ble d 6)) (Bool.rec a5 a4 (Nat.ble d 4)) (Nat.ble d 5)) (Bool.rec (Bool.rec a3 a2 (Nat.ble d 2)) (Bool.rec a1 a0 (Nat.ble d 0)) (Nat.ble d 1)) (Nat.ble d 3)
noncomputable def T8.get (z : α) (t : T8 α) (d : Nat) : α := T8.rec z (fun a0 a1 a2 a3 a4 a5 a6 a7 => sel8 d a0 a1 a2 a3 a4 a5 a6 a7) t
noncomputable def upd8 (d : Nat) (v a0 a1 a2 a3 a4 a5 a6 a7 : α) (k : T8 α → β) : β :=
  Bool.rec (Bool.rec (Bool.rec (k (.n a0 a1 a2 a3 a4 a5 a6 v)) (k (.n a0 a1 a2 a3 a4 a5 v a7)) (Nat.ble d 6)) (Bool.rec (k (.n a0 a1 a2 a3 a4 v a6 a7)) (k (.n a0 a1 a2 a3 v a5 a6 a7)) (Nat.ble d 4)) (Nat.ble d 5))
    (Bool.rec (Bool.rec (k (.n a0 a1 a2 v a4 a5 a6 a7)) (k (.n a0 a1 v a3 a4 a5 a6 a7)) (Nat.ble d 2)) (Bool.rec (k (.n a0 v a2 a3 a4 a5 a6 a7)) (k (.n v a1 a2 a3 a4 a5 a6 a7)) (Nat.ble d 0)) (Nat.ble d 1)) (Nat.ble d 3)
/-- The same tree but for one place; the rest told, so that it is made at once. -/
noncomputable def T8.putK (z : α) (t : T8 α) (d : Nat) (v : α) (k : T8 α → β) : β := T8.rec (upd8 d v z z z z z z z z k) (fun a0 a1 a2 a3 a4 a5 a6 a7 => upd8 d v a0 a1 a2 a3 a4 a5 a6 a7 k) t
noncomputable def T8.put (z : α) (t : T8 α) (d : Nat) (v : α) : T8 α := t.putK z d v fun t => t
theorem T8.putK_eq (z : α) (t : T8 α) (d : Nat) (v : α) (k : T8 α → β) : t.putK z d v k = k (t.put z d v) := by
  unfold T8.put T8.putK upd8
  cases t <;> (dsimp only; cases Nat.ble d 3 <;> cases Nat.ble d 5 <;> cases Nat.ble d 1 <;> cases Nat.ble d 6 <;> cases Nat.ble d 4 <;> cases Nat.ble d 2 <;> cases Nat.ble d 0 <;> rfl)
theorem T8.get_e (z : α) (d : Nat) : T8.get z .e d = z := rfl
theorem lt8 {d : Nat} (h : d < 8) : d = 0 ∨ d = 1 ∨ d = 2 ∨ d = 3 ∨ d = 4 ∨ d = 5 ∨ d = 6 ∨ d = 7 := by omega
theorem T8.get_put (z : α) (t : T8 α) (d : Nat) (v : α) (e : Nat) (hd : d < 8) (he : e < 8) : T8.get z (t.put z d v) e = if e = d then v else T8.get z t e := by
  cases t <;> rcases lt8 hd with rfl | rfl | rfl | rfl | rfl | rfl | rfl | rfl <;> rcases lt8 he with rfl | rfl | rfl | rfl | rfl | rfl | rfl | rfl <;> rfl

/-- Three digits. -/
abbrev T83 (α : Type) := T8 (T8 (T8 α))
noncomputable def get3 (z : α) (t : T83 α) (i : Nat) : α := T8.get z (T8.get .e (T8.get .e t (Nat.div i 64)) (Nat.mod (Nat.div i 8) 8)) (Nat.mod i 8)
noncomputable def put3 (z : α) (t : T83 α) (i : Nat) (v : α) (k : T83 α → β) : β :=
  T8.putK z (T8.get .e (T8.get .e t (Nat.div i 64)) (Nat.mod (Nat.div i 8) 8)) (Nat.mod i 8) v fun c0 =>
    T8.putK .e (T8.get .e t (Nat.div i 64)) (Nat.mod (Nat.div i 8) 8) c0 fun c1 => T8.putK .e t (Nat.div i 64) c1 k
theorem get3_put3 (z : α) (t : T83 α) (i : Nat) (v : α) (k : T83 α → β) (hi : i < 512) : ∃ t', put3 z t i v k = k t' ∧ ∀ j, j < 512 → get3 z t' j = if j = i then v else get3 z t j := by
  refine ⟨_, by unfold put3; rw [T8.putK_eq, T8.putK_eq, T8.putK_eq], fun j hj => ?_⟩
  have a1 : Nat.div i 64 < 8 := by show i / 64 < 8; omega
  have a2 : Nat.mod (Nat.div i 8) 8 < 8 := by show i / 8 % 8 < 8; omega
  have a3 : Nat.mod i 8 < 8 := by show i % 8 < 8; omega
  have b1 : Nat.div j 64 < 8 := by show j / 64 < 8; omega
  have b2 : Nat.mod (Nat.div j 8) 8 < 8 := by show j / 8 % 8 < 8; omega
  have b3 : Nat.mod j 8 < 8 := by show j % 8 < 8; omega
  have key : (Nat.div j 64 = Nat.div i 64 ∧ Nat.mod (Nat.div j 8) 8 = Nat.mod (Nat.div i 8) 8 ∧ Nat.mod j 8 = Nat.mod i 8) ↔ j = i := by
    show (j / 64 = i / 64 ∧ j / 8 % 8 = i / 8 % 8 ∧ j % 8 = i % 8) ↔ j = i
    omega
  unfold get3
  rw [T8.get_put _ _ _ _ _ a1 b1]
  by_cases h1 : Nat.div j 64 = Nat.div i 64
  · rw [if_pos h1, T8.get_put _ _ _ _ _ a2 b2]
    by_cases h2 : Nat.mod (Nat.div j 8) 8 = Nat.mod (Nat.div i 8) 8
    · rw [if_pos h2, T8.get_put _ _ _ _ _ a3 b3]
      by_cases h3 : Nat.mod j 8 = Nat.mod i 8
      · rw [if_pos h3, if_pos (key.1 ⟨h1, h2, h3⟩)]
      · rw [if_neg h3, if_neg (fun e => h3 (key.2 e).2.2), h1, h2]
    · rw [if_neg h2, if_neg (fun e => h2 (key.2 e).2.1), h1]
  · rw [if_neg h1, if_neg (fun e => h1 (key.2 e).1)]
theorem get3_e (z : α) (i : Nat) : get3 z .e i = z := rfl
/-- Five digits. -/
abbrev T85 (α : Type) := T8 (T8 (T83 α))
noncomputable def get5 (z : α) (t : T85 α) (i : Nat) : α := get3 z (T8.get .e (T8.get .e t (Nat.div i 4096)) (Nat.mod (Nat.div i 512) 8)) (Nat.mod i 512)
noncomputable def put5 (z : α) (t : T85 α) (i : Nat) (v : α) (k : T85 α → β) : β :=
  put3 z (T8.get .e (T8.get .e t (Nat.div i 4096)) (Nat.mod (Nat.div i 512) 8)) (Nat.mod i 512) v fun c0 =>
    T8.putK .e (T8.get .e t (Nat.div i 4096)) (Nat.mod (Nat.div i 512) 8) c0 fun c1 => T8.putK .e t (Nat.div i 4096) c1 k
theorem get5_put5 (z : α) (t : T85 α) (i : Nat) (v : α) (k : T85 α → β) (hi : i < 32768) : ∃ t', put5 z t i v k = k t' ∧ ∀ j, j < 32768 → get5 z t' j = if j = i then v else get5 z t j := by
  have a1 : Nat.div i 4096 < 8 := by show i / 4096 < 8; omega
  have a2 : Nat.mod (Nat.div i 512) 8 < 8 := by show i / 512 % 8 < 8; omega
  have a3 : Nat.mod i 512 < 512 := by show i % 512 < 512; omega
  obtain ⟨t3, h3, h3'⟩ := get3_put3 z (T8.get .e (T8.get .e t (Nat.div i 4096)) (Nat.mod (Nat.div i 512) 8)) (Nat.mod i 512) v (fun c0 =>
    T8.putK .e (T8.get .e t (Nat.div i 4096)) (Nat.mod (Nat.div i 512) 8) c0 fun c1 => T8.putK .e t (Nat.div i 4096) c1 k) a3
  refine ⟨_, by unfold put5; rw [h3, T8.putK_eq, T8.putK_eq], fun j hj => ?_⟩
  have b1 : Nat.div j 4096 < 8 := by show j / 4096 < 8; omega
  have b2 : Nat.mod (Nat.div j 512) 8 < 8 := by show j / 512 % 8 < 8; omega
  have b3 : Nat.mod j 512 < 512 := by show j % 512 < 512; omega
  have key : (Nat.div j 4096 = Nat.div i 4096 ∧ Nat.mod (Nat.div j 512) 8 = Nat.mod (Nat.div i 512) 8 ∧ Nat.mod j 512 = Nat.mod i 512) ↔ j = i := by
    show (j / 4096 = i / 4096 ∧ j / 512 % 8 = i / 512 % 8 ∧ j % 512 = i % 512) ↔ j = i
    omega
  unfold get5
  rw [T8.get_put _ _ _ _ _ a1 b1]
  by_cases h1 : Nat.div j 4096 = Nat.div i 4096
  · rw [if_pos h1, T8.get_put _ _ _ _ _ a2 b2]
    by_cases h2 : Nat.mod (Nat.div j 512) 8 = Nat.mod (Nat.div i 512) 8
    · rw [if_pos h2, h3' _ b3]
      by_cases hh : Nat.mod j 512 = Nat.mod i 512
      · rw [if_pos hh, if_pos (key.1 ⟨h1, h2, hh⟩)]
      · rw [if_neg hh, if_neg (fun e => hh (key.2 e).2.2), h1, h2]
    · rw [if_neg h2, if_neg (fun e => h2 (key.2 e).2.1), h1]
  · rw [if_neg h1, if_neg (fun e => h1 (key.2 e).1)]
end

abbrev Tr (α : Type) := T83 α
noncomputable def lfr (l : Tr Value) : Fr := fun k => Bool.rec undef (get3 undef l k) (Nat.ble k 511)
theorem blt_true {a b : Nat} : Nat.blt a b = true ↔ a < b := by simp [Nat.blt]; omega
theorem blt_false {a b : Nat} : Nat.blt a b = false ↔ ¬ a < b := by
  rw [← Bool.not_eq_true, blt_true]
theorem ble_f {a b : Nat} (h : ¬ a ≤ b) : Nat.ble a b = false := by
  rw [← Bool.not_eq_true]; intro e; exact h (Nat.le_of_ble_eq_true e)
theorem lfr_lt {l : Tr Value} {k : Nat} (h : k < 512) : lfr l k = get3 undef l k := by unfold lfr; rw [Nat.ble_eq_true_of_le (by omega)]
theorem lfr_ge {l : Tr Value} {k : Nat} (h : ¬ k < 512) : lfr l k = undef := by unfold lfr; rw [ble_f (by omega)]
/-- A slot is written: the rest goes on with it. -/
noncomputable def lset {β : Type} (l : Tr Value) (d : Option Nat) (v : Value) (k : Tr Value → Option β) : Option β :=
  Option.rec (k l) (fun d => Bool.rec none (put3 undef l d v k) (Nat.ble d 511)) d
theorem lset_ok {β : Type} {l : Tr Value} {d : Option Nat} {v : Value} {k : Tr Value → Option β} {r : β} (h : lset l d v k = some r) : ∃ l', k l' = some r ∧ lfr l' = updo (lfr l) d v := by
  unfold lset at h
  cases d with
  | none => exact ⟨l, h, rfl⟩
  | some d =>
    dsimp only at h
    cases hd : Nat.ble d 511 with
    | false => rw [hd] at h; cases h
    | true =>
      have hd' := Nat.le_of_ble_eq_true hd
      rw [hd] at h
      dsimp only at h
      obtain ⟨l', h1, h2⟩ := get3_put3 undef l d v k (by omega)
      rw [h1] at h
      refine ⟨l', h, ?_⟩
      funext k
      simp only [updo, upd]
      by_cases hk : k < 512
      · rw [lfr_lt hk, lfr_lt hk, h2 k hk]
      · rw [lfr_ge hk, lfr_ge hk, if_neg (by omega)]
theorem lfr_e : lfr .e = frA [] := by
  funext k
  by_cases hk : k < 512
  · rw [lfr_lt hk]; simp [frA, get3_e]
  · rw [lfr_ge hk]; simp [frA]

structure LM where
  n : Nat
  es : T85 Ent
noncomputable def LM.get (L : LM) (i : Nat) : Ent := Bool.rec .dead (get5 .dead L.es i) (Nat.ble (Nat.succ i) L.n)
noncomputable def toMem (L : LM) : Mem := ⟨L.n, L.get⟩
theorem LM.get_lt {L : LM} {i : Nat} (h : i < L.n) : L.get i = get5 .dead L.es i := by unfold LM.get; rw [Nat.ble_eq_true_of_le (by omega)]
theorem LM.get_ge {L : LM} {i : Nat} (h : ¬ i < L.n) : L.get i = .dead := by unfold LM.get; rw [ble_f (by omega)]

/-! Values are put into a plain form. -/
section
variable {α : Type}
noncomputable def frcN (n : Nat) (k : Nat → α) : α := Nat.rec (k 0) (fun m _ => k (Nat.succ m)) n
theorem frcN_eq (n : Nat) (k : Nat → α) : frcN n k = k n := by cases n <;> rfl
noncomputable def frcI (n : Int) (k : Int → α) : α := Int.rec (fun m => frcN m fun m => k (.ofNat m)) (fun m => frcN m fun m => k (.negSucc m)) n
theorem frcI_eq (n : Int) (k : Int → α) : frcI n k = k n := by cases n <;> simp [frcI, frcN_eq]
noncomputable def frcB (l : List UInt8) : (List UInt8 → α) → α := List.rec (fun k => k []) (fun b _ ih k => frcN b.toNat fun n => ih fun l => k (UInt8.ofNat n :: l)) l
theorem frcB_eq : ∀ (l : List UInt8) (k : List UInt8 → α), frcB l k = k l
  | [], k => rfl
  | b :: l, k => by
    show frcN b.toNat (fun n => frcB l fun l => k (UInt8.ofNat n :: l)) = _
    simp [frcN_eq, frcB_eq l]
noncomputable def frcBo (b : Bool) (k : Bool → α) : α := Bool.rec (k false) (k true) b
theorem frcBo_eq (b : Bool) (k : Bool → α) : frcBo b k = k b := by cases b <;> rfl
noncomputable def frcAd (a : Addr) (k : Addr → α) : α := Addr.rec (fun b o s => Option.rec (frcN b fun b => frcN o fun o => k ⟨b, o, none⟩) (fun s => k ⟨b, o, some s⟩) s) a
theorem frcAd_eq (a : Addr) (k : Addr → α) : frcAd a k = k a := by
  obtain ⟨b, o, s⟩ := a
  cases s <;> simp [frcAd, frcN_eq]
noncomputable def frcA (a : Option Addr) (k : Option Addr → α) : α := Option.rec (k none) (fun a => frcAd a fun a => k (some a)) a
theorem frcA_eq (a : Option Addr) (k : Option Addr → α) : frcA a k = k a := by cases a <;> simp [frcA, frcAd_eq]
noncomputable def frcL (f : Value → (Value → α) → α) (l : List Value) : (List Value → α) → α := List.rec (fun k => k []) (fun v _ ih k => f v fun v => ih fun l => k (v :: l)) l
theorem frcL_eq {f : Value → (Value → α) → α} (hf : ∀ v k, f v k = k v) : ∀ (l : List Value) (k : List Value → α), frcL f l k = k l
  | [], k => rfl
  | v :: l, k => by
    show f v (fun v => frcL f l fun l => k (v :: l)) = _
    simp [hf, frcL_eq hf l]
noncomputable def frc1 (ih : Value → (Value → α) → α) (v : Value) (k : Value → α) : α := match v with
  | .bool b => frcBo b fun b => k (.bool b)
  | .int t n => frcI n fun n => k (.int t n)
  | .pointer a => frcA a fun a => k (.pointer a)
  | .slice a n c => frcA a fun a => frcN n fun n => frcN c fun c => k (.slice a n c)
  | .iface t v => ih v fun v => k (.iface t v)
  | .agg ⟨l⟩ => frcL ih l fun l => k (.agg ⟨l⟩)
  | .tuple ⟨l⟩ => frcL ih l fun l => k (.tuple ⟨l⟩)
  | .func fn ⟨f⟩ ⟨c⟩ => frcL ih f fun f => frcL ih c fun c => k (.func fn ⟨f⟩ ⟨c⟩)
  | v => k v
noncomputable def frcV (d : Nat) : Value → (Value → α) → α := Nat.rec (fun v k => k v) (fun _ ih => frc1 ih) d
theorem frcV_eq : ∀ (d : Nat) (v : Value) (k : Value → α), frcV d v k = k v
  | 0, v, k => rfl
  | d + 1, v, k => by
    show frc1 (frcV d) v k = _
    unfold frc1
    split <;> simp [frcBo_eq, frcI_eq, frcA_eq, frcN_eq, frcV_eq d, frcL_eq (fun v k => frcV_eq d v k)]
noncomputable def frcMs (l : List MapEntry) : (List MapEntry → α) → α := List.rec (fun k => k []) (fun e _ ih k => frcV 5 e.key fun a => frcV 5 e.val fun b => frcN e.born fun c => ih fun l => k (⟨a, b, c⟩ :: l)) l
theorem frcMs_eq : ∀ (l : List MapEntry) (k : List MapEntry → α), frcMs l k = k l
  | [], k => rfl
  | e :: l, k => by
    show frcV 5 e.key (fun a => frcV 5 e.val fun b => frcN e.born fun c => frcMs l fun l => k (⟨a, b, c⟩ :: l)) = _
    simp [frcV_eq, frcN_eq, frcMs_eq l]
noncomputable def frcE (e : Ent) (k : Ent → α) : α := match e with
  | .own cs t => frcL (frcV 5) cs fun cs => k (.own cs t)
  | .map es cl => frcMs es fun es => frcN cl fun cl => k (.map es cl)
  | e => k e
theorem frcE_eq (e : Ent) (k : Ent → α) : frcE e k = k e := by
  unfold frcE; split <;> simp [frcL_eq (fun v k => frcV_eq 5 v k), frcMs_eq, frcN_eq]
end

/-! What an operation does with the memory. -/
inductive MO where
  | keep
  | push (e : Ent)
  | set (i : Nat) (e : Ent)
  | move (i : Nat) (e : Ent)
def MO.app (m : Mem) : MO → Mem
  | .keep => m
  | .push e => m.push e
  | .set i e => m.set i e
  | .move i e => (m.set i .dead).push e
noncomputable def LM.push (L : LM) (e : Ent) : Option LM := Bool.rec none (frcE e fun e => put5 .dead L.es L.n e fun es => frcN (Nat.succ L.n) fun n => some ⟨n, es⟩) (Nat.ble L.n 32767)
noncomputable def LM.set (L : LM) (i : Nat) (e : Ent) : Option LM := Bool.rec none (frcE e fun e => put5 .dead L.es i e fun es => some ⟨L.n, es⟩) (and (Nat.ble (Nat.succ i) L.n) (Nat.ble L.n 32768))
theorem toMem_push {L L' : LM} {e : Ent} (h : L.push e = some L') : toMem L' = (toMem L).push e := by
  unfold LM.push at h
  cases hn : Nat.ble L.n 32767 with
  | false => rw [hn] at h; cases h
  | true =>
    have hn' := Nat.le_of_ble_eq_true hn
    rw [hn] at h
    dsimp only at h
    rw [frcE_eq] at h
    obtain ⟨t', h1, h2⟩ := get5_put5 .dead L.es L.n e (fun es => frcN (Nat.succ L.n) fun n => some (⟨n, es⟩ : LM)) (by omega)
    rw [h1, frcN_eq] at h
    simp only [Option.some.injEq] at h
    subst h
    unfold toMem Mem.push
    congr 1
    funext k
    show LM.get ⟨L.n + 1, _⟩ k = if k = L.n then e else L.get k
    by_cases h3 : k < L.n + 1
    · rw [LM.get_lt (by exact h3)]
      show get5 .dead t' k = _
      rw [h2 k (by omega)]
      by_cases h4 : k = L.n
      · simp [h4]
      · rw [if_neg h4, if_neg h4, LM.get_lt (by omega)]
    · rw [LM.get_ge (by exact h3), if_neg (by omega), LM.get_ge (by omega)]
theorem toMem_set {L L' : LM} {i : Nat} {e : Ent} (h : L.set i e = some L') : toMem L' = (toMem L).set i e := by
  unfold LM.set at h
  cases hn : and (Nat.ble (Nat.succ i) L.n) (Nat.ble L.n 32768) with
  | false => rw [hn] at h; cases h
  | true =>
    rw [hn] at h
    simp only [Bool.and_eq_true] at hn
    have hn1 := Nat.le_of_ble_eq_true hn.1
    have hn2 := Nat.le_of_ble_eq_true hn.2
    dsimp only at h
    rw [frcE_eq] at h
    obtain ⟨t', h1, h2⟩ := get5_put5 .dead L.es i e (fun es => some (⟨L.n, es⟩ : LM)) (by omega)
    rw [h1] at h
    simp only [Option.some.injEq] at h
    subst h
    unfold toMem Mem.set
    congr 1
    funext k
    show LM.get ⟨L.n, _⟩ k = if k = i then e else L.get k
    by_cases h3 : k < L.n
    · rw [LM.get_lt (by exact h3)]
      show get5 .dead t' k = _
      rw [h2 k (by omega)]
      by_cases h4 : k = i
      · simp [h4]
      · rw [if_neg h4, if_neg h4, LM.get_lt h3]
    · rw [LM.get_ge (by exact h3), if_neg (by omega), LM.get_ge h3]
noncomputable def MO.appL (L : LM) : MO → Option LM
  | .keep => some L
  | .push e => L.push e
  | .set i e => L.set i e
  | .move i e => match L.set i .dead with
    | some L => L.push e
    | none => none
theorem MO.appL_eq {L L' : LM} {o : MO} (h : o.appL L = some L') : toMem L' = o.app (toMem L) := by
  cases o with
  | keep => simp [MO.appL] at h; subst h; rfl
  | push e => exact toMem_push h
  | set i e => exact toMem_set h
  | move i e =>
    simp only [MO.appL] at h
    split at h
    · rename_i L1 h1
      rw [toMem_push h, toMem_set h1]; rfl
    · cases h

def fSt (n : Nat) (p x : Value) (m : Mem) : Option (Value × MO) := match p with
  | .pointer (some ⟨i, o, none⟩) => match m.get i with
    | .own cs e => if o + n ≤ cs.length ∧ (cellsV x).length = n ∧ (cellsV x).all oneC = true then some (undef, .set i (.own (putAt cs o (cellsV x)) e)) else none
    | _ => none
  | _ => none
def fApp (e sz bytes : Nat) (x y : Value) (m : Mem) : Option (Value × MO) := match elemsV m sz y with
  | none => none
  | some ys => if lenV y = 0 then (match x with | .slice a n c => some (.slice a n c, .keep) | _ => none) else
    if ys.all oneC = true ∧ (lenV x + lenV y) * bytes ≤ 140737488355328 ∧ lenV x + lenV y ≤ maxLen then
      match x with
      | .slice none _ _ => some (.slice (some ⟨m.next, 0, none⟩) (lenV y) sz, .push (.own ys e))
      | .slice (some ⟨i, o, none⟩) n z => match m.get i with
        | .own cs e' => if o + n * sz ≤ cs.length ∧ z = sz ∧ e' = e ∧ o % sz = 0 then
            some (.slice (some ⟨m.next, 0, none⟩) (n + lenV y) sz, .move i (.own ((cs.drop o).take (n * sz) ++ ys) e))
          else none
        | _ => none
      | _ => none
    else none
def fBsl (e sz len : Nat) (cs : Option (List Value)) (m : Mem) : Option (Value × MO) := match cs with
  | some cs => if cs.length = len * sz then some (.slice (some ⟨m.next, 0, none⟩) len sz, .push (.own cs e)) else none
  | none => none
def fMks (e bytes : Nat) (zero n c : Value) (m : Mem) : Option (Value × MO) := match n, c with
  | .int .i64 a, .int .i64 b => if 0 ≤ a ∧ a ≤ b ∧ bytes * b ≤ 140737488355328 ∧ b ≤ (maxLen : Nat) then
      some (.slice (some ⟨m.next, 0, none⟩) a.toNat 1, .push (.own (List.replicate a.toNat zero) e))
    else none
  | _, _ => none
def fS2b (e : Nat) (x : Value) (m : Mem) : Option (Value × MO) := match x with
  | .string s => if s.size ≤ 140737488355328 then some (.slice (some ⟨m.next, 0, none⟩) s.size 1, .push (.own (s.data.toList.map byteV) e)) else none
  | _ => none
def fCpy (sz : Nat) (x y : Value) (m : Mem) : Option (Value × MO) := match elemsV m sz y, x with
  | some ys, .slice (some ⟨i, o, none⟩) n _ => match m.get i with
    | .own cs e => if o + min (lenV y) n * sz ≤ cs.length ∧ ys.all oneC = true then
        some (.int .i64 (min (lenV y) n : Nat), .set i (.own (putAt cs o (ys.take (min (lenV y) n * sz))) e)) else none
    | _ => none
  | some ys, .slice _ 0 _ => some (.int .i64 0, .keep)
  | _, _ => none
def fUst (e : Nat) (p n : Value) (m : Mem) : Option (Value × MO) := match p, n with
  | .pointer none, .int .i64 k => if k = 0 then some (.string .empty, .keep) else none
  | .pointer (some ⟨i, o, none⟩), .int .i64 k => if k = 0 then some (.string .empty, .keep) else if 0 < k ∧ k ≤ 9223372036854775807 then match m.get i with
    | .own cs e' => if e' = e ∧ o + k.toNat ≤ cs.length then match bytesOf ((cs.drop o).take k.toNat) with
        | some bs => some (.string ⟨bs.toArray⟩, .set i .dead)
        | none => none
      else none
    | _ => none else none
  | _, _ => none
def fMup (str : Bool) (x k v : Value) (m : Mem) : Option (Value × MO) := match x with
  | .map (some r) => match m.get r with
    | .map es clock => match mapFind str k es 0 with
      | some (some (i, _)) => some (undef, .set r (.map (mapPut es i k v) clock))
      | some none => some (undef, .set r (.map (es ++ [⟨k, v, clock⟩]) (Nat.succ clock)))
      | none => none
    | _ => none
  | _ => none
def effE (ts : Fr) (m : Mem) : EO → Option (Value × MO)
  | .al zero e => some (.pointer (some ⟨m.next, 0, none⟩), .push (.own zero e))
  | .bx e x => some (.pointer (some ⟨m.next, 0, none⟩), .push (.own (cellsV (ev ts x)) e))
  | .bsl e sz len zero parts => fBsl e sz len (fillD ts parts zero) m
  | .st n p x => fSt n (ev ts p) (ev ts x) m
  | .app e sz bytes x y => fApp e sz bytes (ev ts x) (ev ts y) m
  | .mks e bytes zero n c => fMks e bytes zero (ev ts n) (ev ts c) m
  | .s2b e x => fS2b e (ev ts x) m
  | .cpy sz x y => fCpy sz (ev ts x) (ev ts y) m
  | .ust e p n => fUst e (ev ts p) (ev ts n) m
  | .mkm => some (.map (some m.next), .push (.map [] 0))
  | .mup str x k v => fMup str (ev ts x) (ev ts k) (ev ts v) m

theorem effE_eq {ts : Fr} {m : Mem} {o : EO} {v : Value} {q : MO} (h : effE ts m o = some (v, q)) : dE ts m o = some (v, q.app m) := by
  cases o <;> simp only [effE, fBsl, fSt, fApp, fMks, fS2b, fCpy, fUst, fMup] at h <;> simp only [dE]
  case al => simp at h; obtain ⟨rfl, rfl⟩ := h; rfl
  case bx => simp at h; obtain ⟨rfl, rfl⟩ := h; rfl
  case mkm => simp at h; obtain ⟨rfl, rfl⟩ := h; rfl
  all_goals
    repeat' split at h
    all_goals first
      | (cases h; done)
      | (simp only [Option.some.injEq, Prod.mk.injEq] at h
         obtain ⟨rfl, rfl⟩ := h
         simp_all [MO.app]
         done)

/-- A text's bytes are put into a plain form. -/
noncomputable def frcS {α : Type} (v : Value) (k : Value → α) : α := match v with
  | .string ⟨⟨l⟩⟩ => frcB l fun l => k (.string ⟨⟨l⟩⟩)
  | v => k v
theorem frcS_eq {α : Type} (v : Value) (k : Value → α) : frcS v k = k v := by
  unfold frcS; split <;> simp [frcB_eq]
noncomputable def eE (l : Tr Value) (L : LM) (o : EO) : Option (Value × LM) := match effE (lfr l) (toMem L) o with
  | some (v, q) => match q.appL L with
    | some L' => frcS v fun v => some (v, L')
    | none => none
  | none => none
theorem eE_eq {l : Tr Value} {L L' : LM} {o : EO} {v : Value} (h : eE l L o = some (v, L')) : dE (lfr l) (toMem L) o = some (v, toMem L') := by
  unfold eE at h
  split at h
  · rename_i v' q hq
    split at h
    · rename_i L1 h1
      rw [frcS_eq] at h
      simp at h
      obtain ⟨rfl, rfl⟩ := h
      rw [effE_eq hq, MO.appL_eq h1]
    · cases h
  · cases h

theorem bApp_eq (a b : List UInt8) : (ByteArray.mk ⟨a⟩) ++ (ByteArray.mk ⟨b⟩) = ByteArray.mk ⟨a ++ b⟩ := by
  apply ByteArray.ext
  simp
theorem bExt_eq (a : List UInt8) (i j : Nat) : (ByteArray.mk ⟨a⟩).extract i j = ByteArray.mk ⟨(a.take j).drop i⟩ := by
  apply ByteArray.ext
  apply Array.ext'
  simp [List.drop_take]

/-! Whole numbers, by their digits. -/
def ltI : Int → Int → Bool
  | .ofNat a, .ofNat b => Nat.blt a b
  | .ofNat _, .negSucc _ => false
  | .negSucc _, .ofNat _ => true
  | .negSucc a, .negSucc b => Nat.blt b a
theorem blt_dec (a b : Nat) : Nat.blt a b = decide (a < b) := by
  cases h : Nat.blt a b with
  | true => have := blt_true.1 h; simp [this]
  | false => have := blt_false.1 h; simp; omega
theorem ltI_eq (a b : Int) : ltI a b = decide (a < b) := by
  rw [Bool.eq_iff_iff, decide_eq_true_eq]
  cases a <;> cases b <;> simp only [ltI, blt_true, Bool.false_eq_true, false_iff, true_iff] <;> (try simp only [Int.ofNat_eq_natCast]) <;> omega
def eqI : Int → Int → Bool
  | .ofNat a, .ofNat b => Nat.beq a b
  | .negSucc a, .negSucc b => Nat.beq a b
  | _, _ => false
theorem eqI_eq (a b : Int) : eqI a b = (a == b) := by
  rw [Bool.eq_iff_iff, beq_iff_eq]
  cases a <;> cases b <;> simp only [eqI, Nat.beq_eq, Bool.false_eq_true, false_iff] <;> (try simp only [Int.ofNat_eq_natCast]) <;> omega
def kNum : IntKind → Nat
  | .i8 => 0 | .i16 => 1 | .i32 => 2 | .i64 => 3 | .u8 => 4 | .u16 => 5 | .u32 => 6 | .u64 => 7
theorem kNum_inj {a b : IntKind} (h : Nat.beq (kNum a) (kNum b) = true) : a = b := by
  cases a <;> cases b <;> first | rfl | (simp [kNum] at h)
def kTop : IntKind → Nat
  | .i8 | .u8 => 256 | .i16 | .u16 => 65536 | .i32 | .u32 => 4294967296 | .i64 | .u64 => 18446744073709551616
def wrapF (k : IntKind) (n : Int) : Int := match k, n with
  | .i64, .ofNat m => match Nat.blt m 9223372036854775808 with
    | true => .ofNat m
    | false => IntKind.wrap .i64 (.ofNat m)
  | .i32, .ofNat m => match Nat.blt m 2147483648 with
    | true => .ofNat m
    | false => IntKind.wrap .i32 (.ofNat m)
  | .u8, .ofNat m => .ofNat (Nat.mod m 256)
  | .u16, .ofNat m => .ofNat (Nat.mod m 65536)
  | .u32, .ofNat m => .ofNat (Nat.mod m 4294967296)
  | .u64, .ofNat m => .ofNat (Nat.mod m 18446744073709551616)
  | .i64, .negSucc m => match Nat.blt m 9223372036854775808 with
    | true => .negSucc m
    | false => IntKind.wrap .i64 (.negSucc m)
  | k, n => IntKind.wrap k n
theorem wrapF_eq (k : IntKind) (n : Int) : wrapF k n = k.wrap n := by
  unfold wrapF
  split
  · split
    · rename_i h; have := blt_true.1 h
      rw [IntWalk.i64_in _ (by simp only [Int.ofNat_eq_natCast]; omega)]
    · rfl
  · split
    · rename_i h; have := blt_true.1 h
      rw [IntWalk.i32_in _ (by simp only [Int.ofNat_eq_natCast]; omega)]
    · rfl
  · rename_i m
    have : Nat.mod m 256 = m % 256 := rfl
    rw [this]; simp [IntKind.wrap, IntKind.bits, IntKind.signed]
  · rename_i m
    have : Nat.mod m 65536 = m % 65536 := rfl
    rw [this]; simp [IntKind.wrap, IntKind.bits, IntKind.signed]
  · rename_i m
    have : Nat.mod m 4294967296 = m % 4294967296 := rfl
    rw [this]; simp [IntKind.wrap, IntKind.bits, IntKind.signed]
  · rename_i m
    have : Nat.mod m 18446744073709551616 = m % 18446744073709551616 := rfl
    rw [this]; simp [IntKind.wrap, IntKind.bits, IntKind.signed]
  · split
    · rename_i m h; have := blt_true.1 h
      rw [IntWalk.i64_in _ (by omega)]
    · rfl
  · rfl

theorem bits_top (k : IntKind) : (2 : Nat) ^ k.bits = kTop k := by cases k <;> rfl
theorem ofInt_nat {k : IntKind} {a : Nat} (h : a < kTop k) : (BitVec.ofInt k.bits (Int.ofNat a)).toNat = a := by
  have h2 : a < 2 ^ k.bits := by rw [bits_top]; exact h
  rw [BitVec.toNat_ofInt]
  have e : (Int.ofNat a) % ((2 ^ k.bits : Nat) : Int) = ((a % 2 ^ k.bits : Nat) : Int) := by simp
  rw [e, Int.toNat_natCast, Nat.mod_eq_of_lt h2]
/-- A number bit by bit. -/
def bitI (f : Nat → Nat → Nat) (op : BinOp) (k : IntKind) (a b : Int) : Option Value := match a, b with
  | .ofNat x, .ofNat y => match Nat.blt x (kTop k), Nat.blt y (kTop k) with
    | true, true => some (.int k (wrapF k (.ofNat (f x y))))
    | _, _ => dBin op (.int k a) (.int k b)
  | a, b => dBin op (.int k a) (.int k b)
def binI (op : BinOp) (k : IntKind) (a b : Int) : Option Value := match op with
  | .add => some (.int k (wrapF k (a + b)))
  | .sub => some (.int k (wrapF k (a - b)))
  | .mul => some (.int k (wrapF k (a * b)))
  | .quo => match eqI b 0 with
    | true => none
    | false => some (.int k (wrapF k (a.tdiv b)))
  | .rem => match eqI b 0 with
    | true => none
    | false => some (.int k (a.tmod b))
  | .eql => some (.bool (eqI a b))
  | .neq => some (.bool (!eqI a b))
  | .lss => some (.bool (ltI a b))
  | .gtr => some (.bool (ltI b a))
  | .leq => some (.bool (!ltI b a))
  | .geq => some (.bool (!ltI a b))
  | .and => bitI Nat.land .and k a b
  | .or => bitI Nat.lor .or k a b
  | .xor => bitI Nat.xor .xor k a b
  | op => dBin op (.int k a) (.int k b)
theorem bitI_eq {f : Nat → Nat → Nat} {op : BinOp} {k : IntKind} {a b : Int} {v : Value} (hf : ∀ x y, x < kTop k → y < kTop k → dBin op (.int k (.ofNat x)) (.int k (.ofNat y)) = some (.int k (k.wrap (.ofNat (f x y))))) (h : bitI f op k a b = some v) : dBin op (.int k a) (.int k b) = some v := by
  unfold bitI at h
  split at h
  · split at h
    · rename_i h1 h2
      rw [hf _ _ (blt_true.1 h1) (blt_true.1 h2), ← wrapF_eq]; exact h
    · exact h
  · exact h
theorem binI_eq {op : BinOp} {k : IntKind} {a b : Int} {v : Value} (h : binI op k a b = some v) : dBin op (.int k a) (.int k b) = some v := by
  unfold binI at h
  split at h
  · rw [wrapF_eq] at h; simpa [dBin] using h
  · rw [wrapF_eq] at h; simpa [dBin] using h
  · rw [wrapF_eq] at h; simpa [dBin] using h
  · split at h
    · cases h
    · rename_i hb
      rw [eqI_eq] at hb
      have hb : b ≠ 0 := by simpa using hb
      rw [wrapF_eq] at h
      rw [dBin_quo hb]; exact h
  · split at h
    · cases h
    · rename_i hb
      rw [eqI_eq] at hb
      have hb : b ≠ 0 := by simpa using hb
      rw [dBin_rem hb]; exact h
  · rw [eqI_eq] at h; simpa [dBin] using h
  · rw [eqI_eq] at h; simpa [dBin, bne] using h
  · rw [ltI_eq] at h; simpa [dBin] using h
  · rw [ltI_eq] at h; simpa [dBin] using h
  · rw [ltI_eq] at h
    rw [dBin_leq, ← h]
    congr 2
    rw [Bool.eq_iff_iff]; simp
  · rw [ltI_eq] at h
    rw [dBin_geq, ← h]
    congr 2
    rw [Bool.eq_iff_iff]; simp
  · refine bitI_eq (fun x y hx hy => ?_) h
    simp only [dBin, if_true, BitVec.toNat_and, ofInt_nat hx, ofInt_nat hy]
    try rfl
  · refine bitI_eq (fun x y hx hy => ?_) h
    simp only [dBin, if_true, BitVec.toNat_or, ofInt_nat hx, ofInt_nat hy]
    try rfl
  · refine bitI_eq (fun x y hx hy => ?_) h
    simp only [dBin, if_true, BitVec.toNat_xor, ofInt_nat hx, ofInt_nat hy]
    try rfl
  · exact h
def kBits : IntKind → Nat
  | .i8 | .u8 => 8 | .i16 | .u16 => 16 | .i32 | .u32 => 32 | .i64 | .u64 => 64
def shI (op : BinOp) (k k' : IntKind) (a b : Int) : Option Value := match op, a, b with
  | .shl, .ofNat x, .ofNat y => match Nat.ble y (kBits k) with
    | true => some (.int k (wrapF k (.ofNat (Nat.shiftLeft x y))))
    | false => dBin .shl (.int k a) (.int k' b)
  | .shr, .ofNat x, .ofNat y => match Nat.ble y (kBits k) with
    | true => some (.int k (.ofNat (Nat.shiftRight x y)))
    | false => dBin .shr (.int k a) (.int k' b)
  | op, a, b => dBin op (.int k a) (.int k' b)
theorem shI_eq {op : BinOp} {k k' : IntKind} {a b : Int} {v : Value} (h : shI op k k' a b = some v) : dBin op (.int k a) (.int k' b) = some v := by
  have hkb : ∀ k : IntKind, kBits k = k.bits := fun k => by cases k <;> rfl
  unfold shI at h
  split at h
  · rename_i x y
    split at h
    · rename_i hy
      have hy := Nat.le_of_ble_eq_true hy
      rw [hkb] at hy
      rw [wrapF_eq] at h
      rw [← h]
      have e1 : min (Int.ofNat y).toNat k.bits = y := by simp only [Int.ofNat_eq_natCast, Int.toNat_natCast]; omega
      have e2 : Int.ofNat (Nat.shiftLeft x y) = Int.ofNat x * 2 ^ y := by
        have : Nat.shiftLeft x y = x * 2 ^ y := Nat.shiftLeft_eq x y
        rw [this]; simp
      have e3 : ¬ (Int.ofNat y < 0) := by simp only [Int.ofNat_eq_natCast]; omega
      simp only [dBin, e1, e2, if_neg e3]
    · exact h
  · rename_i x y
    split at h
    · rename_i hy
      have hy := Nat.le_of_ble_eq_true hy
      rw [hkb] at hy
      rw [← h]
      have e1 : min (Int.ofNat y).toNat k.bits = y := by simp only [Int.ofNat_eq_natCast, Int.toNat_natCast]; omega
      have e2 : Int.ofNat (Nat.shiftRight x y) = (Int.ofNat x).fdiv (2 ^ y) := by
        have : Nat.shiftRight x y = x / 2 ^ y := Nat.shiftRight_eq_div_pow x y
        rw [this]
        have := Int.ofNat_fdiv x (2 ^ y)
        simpa using this
      have e3 : ¬ (Int.ofNat y < 0) := by simp only [Int.ofNat_eq_natCast]; omega
      simp only [dBin, e1, e2, if_neg e3]
    · exact h
  · exact h
noncomputable def eBin (op : BinOp) (x y : Value) : Option Value := match x, y with
  | .int k a, .int k' b => match op with
    | .shl => shI .shl k k' a b
    | .shr => shI .shr k k' a b
    | op => match Nat.beq (kNum k) (kNum k') with
      | true => binI op k a b
      | false => dBin op (.int k a) (.int k' b)
  | .string ⟨⟨a⟩⟩, .string ⟨⟨b⟩⟩ => match op with
    | .add => if a.length + b.length ≤ 9223372036854775807 then frcB (a ++ b) fun l => some (.string ⟨⟨l⟩⟩) else none
    | op => dBin op (.string ⟨⟨a⟩⟩) (.string ⟨⟨b⟩⟩)
  | x, y => dBin op x y
/-! What looks and reckons; texts by their lists. -/
theorem eBin_eq {op : BinOp} {x y v : Value} (h : eBin op x y = some v) : dBin op x y = some v := by
  unfold eBin at h
  split at h
  · split at h
    · exact shI_eq h
    · exact shI_eq h
    · split at h
      · rename_i hk
        have := kNum_inj hk
        subst this
        exact binI_eq h
      · exact h
  · rename_i a b
    split at h
    · split at h
      · rename_i hl
        rw [frcB_eq] at h
        simp at h; subst h
        simp only [dBin]
        rw [if_pos (by exact hl), bApp_eq]
      · cases h
    · exact h
  · exact h

def ePick (c a b : Value) : Option Value := match c with
  | .bool true => some a
  | .bool false => some b
  | _ => none
noncomputable def eLd (L : LM) (v : Value) : Option Value := match v with
  | .pointer (some ⟨i, o, none⟩) => (toMem L).cell i o
  | _ => none
noncomputable def eLdn (n : Nat) (L : LM) (v : Value) : Option Value := match v with
  | .pointer (some ⟨i, o, none⟩) => match (toMem L).row i o n with
    | some cs => some (.agg ⟨cs⟩)
    | none => none
  | _ => none
def eNck (v : Value) : Option Value := match v with
  | .pointer (some a) => some (.pointer (some a))
  | .iface t v => some (.iface t v)
  | .func (.func f) p q => some (.func (.func f) p q)
  | _ => none
def eEqv (e : EqT) (x y : Value) : Option Bool := match e with
  | .bool => match x, y with
    | .bool a, .bool b => some (a == b)
    | _, _ => none
  | .int => match x, y with
    | .int k a, .int k' b => match Nat.beq (kNum k) (kNum k') with
      | true => some (eqI a b)
      | false => none
    | _, _ => none
  | .iface ts => match x, y with
    | .nilIface, .nilIface => some true
    | .nilIface, .iface _ _ => some false
    | .iface _ _, .nilIface => some false
    | x, y => dEq (.iface ts) x y
  | e => dEq e x y
theorem eEqv_eq {e : EqT} {x y : Value} {b : Bool} (h : eEqv e x y = some b) : dEq e x y = some b := by
  unfold eEqv at h
  split at h
  · split at h
    · exact h
    · cases h
  · split at h
    · split at h
      · rename_i hk
        have := kNum_inj hk
        subst this
        rw [eqI_eq] at h
        simpa [dEq] using h
      · cases h
    · cases h
  · split at h <;> exact h
  · exact h
def eEq (neg : Bool) (e : EqT) (x y : Value) : Option Value := match eEqv e x y with
  | some b => match neg with
    | true => some (.bool (!b))
    | false => some (.bool b)
  | none => none
def eNot (v : Value) : Option Value := match v with
  | .bool b => some (.bool (!b))
  | _ => none
def eNeg (v : Value) : Option Value := match v with
  | .int k n => some (.int k (wrapF k (0 - n)))
  | _ => none
def eCvi (k : IntKind) (v : Value) : Option Value := match v with
  | .int _ n => some (.int k (wrapF k n))
  | _ => none
def eCvs (v : Value) : Option Value := match v with
  | .string s => some (.string s)
  | _ => none
def eFa (off : Nat) (v : Value) : Option Value := match v with
  | .pointer (some ⟨i, o, none⟩) => some (.pointer (some ⟨i, o + off, none⟩))
  | _ => none
def eFld (off n : Nat) (v : Value) : Option Value := match v with
  | .agg cs => pickCells cs.toList off n
  | _ => none
def eIa (sz : Nat) (x y : Value) : Option Value := match x, y with
  | .slice (some ⟨b, o, none⟩) n _, .int _ (.ofNat j) => match Nat.blt j n with
    | true => some (.pointer (some ⟨b, o + j * sz, none⟩))
    | false => none
  | _, _ => none
def eIaa (len sz : Nat) (x y : Value) : Option Value := match x, y with
  | .pointer (some ⟨b, o, none⟩), .int _ (.ofNat j) => match Nat.blt j len with
    | true => some (.pointer (some ⟨b, o + j * sz, none⟩))
    | false => none
  | _, _ => none
def eIxs (x y : Value) : Option Value := match x, y with
  | .string ⟨⟨s⟩⟩, .int _ (.ofNat j) => match s[j]? with
    | some b => some (.int .u8 b.toNat)
    | none => none
  | _, _ => none
def eLens (v : Value) : Option Value := match v with
  | .string ⟨⟨s⟩⟩ => some (.int .i64 s.length)
  | _ => none
def eLenl (v : Value) : Option Value := match v with
  | .slice _ n _ => some (.int .i64 n)
  | _ => none
def eExt (i : Nat) (v : Value) : Option Value := match v with
  | .tuple vs => vs.toList[i]?
  | _ => none
noncomputable def eBld (zero : List Value) (parts : List (Nat × Nat × Operand)) (l : Tr Value) : Option Value := match fillD (lfr l) parts zero with
  | some cs => some (.agg ⟨cs⟩)
  | none => none
noncomputable def eSls (l : Tr Value) (v : Value) (lo hi : Option Operand) : Option Value := match v with
  | .string ⟨⟨s⟩⟩ => match bnd (lfr l) hi s.length s.length with
    | none => none
    | some h => match bnd (lfr l) lo 0 h with
      | none => none
      | some q => frcB ((s.take h).drop q) fun l => some (.string ⟨⟨l⟩⟩)
  | _ => none
noncomputable def eStr (v : Option Value) : Option Value := match v with
  | some v => frcS v fun v => some v
  | none => none
noncomputable def eR (l : Tr Value) (L : LM) (o : RO) : Option Value := match o with
  | .mv x => some (ev (lfr l) x)
  | .pick c a b => ePick (ev (lfr l) c) (ev (lfr l) a) (ev (lfr l) b)
  | .ld x => eLd L (ev (lfr l) x)
  | .ldn n x => eLdn n L (ev (lfr l) x)
  | .nck x => eNck (ev (lfr l) x)
  | .bin op x y => eBin op (ev (lfr l) x) (ev (lfr l) y)
  | .eq neg e x y => eEq neg e (ev (lfr l) x) (ev (lfr l) y)
  | .not x => eNot (ev (lfr l) x)
  | .neg x => eNeg (ev (lfr l) x)
  | .cvi k x => eCvi k (ev (lfr l) x)
  | .cvs x => eCvs (ev (lfr l) x)
  | .fa off x => eFa off (ev (lfr l) x)
  | .fld off n x => eFld off n (ev (lfr l) x)
  | .ia sz x i => eIa sz (ev (lfr l) x) (ev (lfr l) i)
  | .iaa len sz x i => eIaa len sz (ev (lfr l) x) (ev (lfr l) i)
  | .ixs x i => eIxs (ev (lfr l) x) (ev (lfr l) i)
  | .sls x lo hi => eSls l (ev (lfr l) x) lo hi
  | .lens x => eLens (ev (lfr l) x)
  | .lenl x => eLenl (ev (lfr l) x)
  | .lenc n => some (.int .i64 n)
  | .mki t x => some (.iface t (ev (lfr l) x))
  | .ext i x => eExt i (ev (lfr l) x)
  | .bld zero parts => eBld zero parts l
  | .b2s x => eStr (dR (lfr l) (toMem L) (.b2s x))
  | .i2s x => eStr (dR (lfr l) (toMem L) (.i2s x))
  | o => dR (lfr l) (toMem L) o

theorem eR_eq {l : Tr Value} {L : LM} {o : RO} {v : Value} (h : eR l L o = some v) : dR (lfr l) (toMem L) o = some v := by
  have hstr : ∀ {a : Option Value}, eStr a = some v → a = some v := by
    intro a h
    unfold eStr at h
    split at h
    · rw [frcS_eq] at h; exact h
    · cases h
  cases o with
  | mv x => exact h
  | pick c a b => exact h
  | ld x => exact h
  | ldn n x => exact h
  | nck x => exact h
  | bin op x y => exact eBin_eq h
  | eq neg e x y =>
    have h : eEq neg e (ev (lfr l) x) (ev (lfr l) y) = some v := h
    unfold eEq at h
    simp only [dR]
    split at h
    · rename_i b hb
      rw [eEqv_eq hb]
      cases neg <;> simpa using h
    · cases h
  | not x => exact h
  | neg x =>
    have h : eNeg (ev (lfr l) x) = some v := h
    unfold eNeg at h
    simp only [dR]
    split at h
    · rename_i hx; rw [hx]; simp only []; rw [wrapF_eq] at h; exact h
    · cases h
  | cvi k x =>
    have h : eCvi k (ev (lfr l) x) = some v := h
    unfold eCvi at h
    simp only [dR]
    split at h
    · rename_i hx; rw [hx]; simp only []; rw [wrapF_eq] at h; exact h
    · cases h
  | cvs x => exact h
  | fa off x => exact h
  | fld off n x => exact h
  | ia sz x i =>
    have h : eIa sz (ev (lfr l) x) (ev (lfr l) i) = some v := h
    unfold eIa at h
    simp only [dR]
    split at h
    · rename_i b o n c k j h1 h2
      rw [h1, h2]
      split at h
      · rename_i hj
        have := blt_true.1 hj
        simp only [Int.ofNat_eq_natCast, Int.toNat_natCast]
        rw [if_pos (by omega)]
        exact h
      · cases h
    · cases h
  | iaa len sz x i =>
    have h : eIaa len sz (ev (lfr l) x) (ev (lfr l) i) = some v := h
    unfold eIaa at h
    simp only [dR]
    split at h
    · rename_i b o k j h1 h2
      rw [h1, h2]
      split at h
      · rename_i hj
        have := blt_true.1 hj
        simp only [Int.ofNat_eq_natCast, Int.toNat_natCast]
        rw [if_pos (by omega)]
        exact h
      · cases h
    · cases h
  | ixs x i =>
    have h : eIxs (ev (lfr l) x) (ev (lfr l) i) = some v := h
    unfold eIxs at h
    simp only [dR]
    split at h
    · rename_i s k j h1 h2
      rw [h1, h2]
      simp only [Int.ofNat_eq_natCast, Int.toNat_natCast]
      rw [if_pos (by omega)]
      have e : (ByteArray.mk ⟨s⟩)[j]? = s[j]? := by
        show (if h : j < s.length then some _ else none) = _
        split
        · rename_i hj; rw [List.getElem?_eq_getElem hj]; rfl
        · rename_i hj; rw [List.getElem?_eq_none (by omega)]
      rw [e]
      exact h
    · cases h
  | sls x lo hi =>
    have h : eSls l (ev (lfr l) x) lo hi = some v := h
    unfold eSls at h
    simp only [dR]
    split at h
    · rename_i s h1
      rw [h1]
      have e : (ByteArray.mk ⟨s⟩).size = s.length := rfl
      simp only [e]
      split at h
      · cases h
      · rename_i h2 h3
        rw [h3]
        simp only []
        split at h
        · cases h
        · rename_i q h4
          rw [h4]
          simp only []
          rw [frcB_eq] at h
          rw [bExt_eq]
          exact h
    · cases h
  | lens x =>
    have h : eLens (ev (lfr l) x) = some v := h
    unfold eLens at h
    simp only [dR]
    split at h
    · rename_i s hx; rw [hx]; exact h
    · cases h
  | lenl x => exact h
  | lenc n => exact h
  | mki t x => exact h
  | ext i x => exact h
  | bld z ps => exact h
  | b2s x => exact hstr h
  | i2s x => exact hstr h
  | com x => exact h
  | ixa a b c x y => exact h
  | sl a x lo hi => exact h
  | sla a b x lo hi => exact h
  | mkf a b c => exact h
  | mn x y => exact h
  | mx x y => exact h
  | cvp x => exact h
  | cvu a b x => exact h
  | usd x => exact h
  | capn x => exact h
  | tas a b c x => exact h
  | lku a b c x y => exact h
  | ieq a b x y => exact h

/-! Equal values. -/
def eqB : List UInt8 → List UInt8 → Bool
  | [], [] => true
  | a :: l, b :: r => Nat.beq a.toNat b.toNat && eqB l r
  | _, _ => false
theorem eqB_eq : ∀ {a b : List UInt8}, eqB a b = true → a = b
  | [], [], _ => rfl
  | a :: l, b :: r, h => by
    simp only [eqB, Bool.and_eq_true] at h
    rw [UInt8.toNat_inj.1 (Nat.eq_of_beq_eq_true h.1), eqB_eq h.2]
  | [], _ :: _, h => by cases h
  | _ :: _, [], h => by cases h
def eqL (f : Value → Value → Bool) : List Value → List Value → Bool
  | [], [] => true
  | a :: l, b :: r => f a b && eqL f l r
  | _, _ => false
theorem eqL_eq {f : Value → Value → Bool} (hf : ∀ a b, f a b = true → a = b) : ∀ {a b : List Value}, eqL f a b = true → a = b
  | [], [], _ => rfl
  | a :: l, b :: r, h => by
    simp only [eqL, Bool.and_eq_true] at h
    rw [hf _ _ h.1, eqL_eq hf h.2]
  | [], _ :: _, h => by cases h
  | _ :: _, [], h => by cases h
def eqV : Nat → Value → Value → Bool
  | 0, _, _ => false
  | d + 1, .bool a, .bool b => a == b
  | d + 1, .int k a, .int k' b => k == k' && decide (a = b)
  | d + 1, .string ⟨⟨a⟩⟩, .string ⟨⟨b⟩⟩ => eqB a b
  | d + 1, .pointer a, .pointer b => decide (a = b)
  | d + 1, .slice a n c, .slice b n' c' => decide (a = b) && decide (n = n') && decide (c = c')
  | d + 1, .nilIface, .nilIface => true
  | d + 1, .nilFunc, .nilFunc => true
  | d + 1, .map a, .map b => decide (a = b)
  | d + 1, .iface t a, .iface t' b => decide (t = t') && eqV d a b
  | d + 1, .agg ⟨a⟩, .agg ⟨b⟩ => eqL (eqV d) a b
  | d + 1, .tuple ⟨a⟩, .tuple ⟨b⟩ => eqL (eqV d) a b
  | _, _, _ => false
theorem eqV_eq : ∀ (d : Nat) (a b : Value), eqV d a b = true → a = b
  | 0, a, b, h => by simp [eqV] at h
  | d + 1, a, b, h => by
    unfold eqV at h
    split at h <;> simp_all
    · exact eqB_eq h
    · exact eqV_eq _ _ _ h.2
    · exact eqL_eq (fun a b h => eqV_eq _ a b h) h
    · exact eqL_eq (fun a b h => eqV_eq _ a b h) h

noncomputable def eqO (a : Option Value) (b : Value) : Bool := match a with
  | some a => eqV 6 a b
  | none => false
noncomputable def stabB (l : Tr Value) (L : LM) : List (Nat × Option (Nat × Bool) × RO) → Bool
  | [] => true
  | (d, g, o) :: rest => (!(wantD g (lfr l)) || eqO (eR l L o) (lfr l d)) && stabB l L rest
theorem stabB_ok {l : Tr Value} {L : LM} : ∀ {st : List (Nat × Option (Nat × Bool) × RO)}, stabB l L st = true → stabOk (lfr l) (toMem L) st
  | [], _ => trivial
  | (d, g, o) :: rest, h => by
    simp only [stabB, Bool.and_eq_true, Bool.or_eq_true, Bool.not_eq_true'] at h
    refine ⟨?_, stabB_ok h.2⟩
    rcases h.1 with h1 | h1
    · rw [h1]; simp
    · split
      · unfold eqO at h1
        split at h1
        · rename_i a ha
          rw [eR_eq ha, eqV_eq _ _ _ h1]
        · cases h1
      · trivial

/-! The run. -/
abbrev CallE := FuncId → List Value → LM → Option (Value × LM)
noncomputable def stepK (call : CallE) (P : Program) (k : RK) (l : Tr Value) (L : LM) : Option (Value × LM) := match k with
  | .r o => match eR l L o with
    | some v => some (v, L)
    | none => none
  | .a x => some (ev (lfr l) x, L)
  | .e o => eE l L o
  | .c o => match dC P (lfr l) o with
    | some (f, args) => call f args L
    | none => none
  | .bad => none

noncomputable def runS1 (call : CallE) (P : Program) (s : Sp) (ih : Tr Value → LM → Option (Tr Value × LM)) (l : Tr Value) (L : LM) : Option (Tr Value × LM) := match wantD s.g (lfr l) with
    | true => match stepK call P s.k l L with
      | some (v, L') => frcV 6 v fun v => lset l s.d v fun l => match s.stab with
        | [] => ih l L'
        | st => match stabB l L' st with
          | true => ih l L'
          | false => none
      | none => none
    | false => lset l s.d undef fun l => ih l L
noncomputable def runS (call : CallE) (P : Program) (sp : List Sp) : Tr Value → LM → Option (Tr Value × LM) := List.rec (fun l L => some (l, L)) (fun s _ ih => runS1 call P s ih) sp

abbrev RunE := RC → Tr Value → LM → Option (Exit × Tr Value × LM)
noncomputable def stepC (rec : RunE) (call : CallE) (P : Program) : RunE
  | .skip, l, L => some (.normal, l, L)
  | .run sp, l, L => match runS call P sp l L with
    | some (l', L') => some (.normal, l', L')
    | none => none
  | .seq a b, l, L => match rec a l L with
    | some (.normal, l', L') => rec b l' L'
    | r => r
  | .cond c x y, l, L => match ev (lfr l) c with
    | .bool true => rec x l L
    | .bool false => rec y l L
    | _ => none
  | .block id b, l, L => match rec b l L with
    | some (.exit i, l', L') => match Nat.beq i id with
      | true => some (.normal, l', L')
      | false => some (.exit i, l', L')
    | r => r
  | .loop b, l, L => match rec b l L with
    | some (.normal, l', L') => rec (.loop b) l' L'
    | r => r
  | .exit id, l, L => some (.exit id, l, L)
  | .scope b, l, L => match rec b l L with
    | some (.goto _, _, _) => none
    | r => r
  | .jumps b l1 r1 l2 r2, l, L => match rec b l L with
    | some (.goto i, l', L') => match Nat.beq i l1 with
      | true => rec (.jumps r1 l1 r1 l2 r2) l' L'
      | false => match Nat.beq i l2 with
        | true => rec (.jumps r2 l1 r1 l2 r2) l' L'
        | false => none
    | r => r
  | .label _, l, L => some (.normal, l, L)
  | .goto k, l, L => some (.goto k, l, L)
  | .ret, l, L => some (.ret, l, L)
  | .stop, _, _ => none

/-- A function of the table: its number, how many slots, its code, its results. -/
structure TE where
  f : FuncId
  N : Nat
  rc : RC
  ro : List RO
def findT : List TE → FuncId → Option TE
  | [], _ => none
  | t :: r, f => match Nat.beq t.f f with
    | true => some t
    | false => findT r f
noncomputable def endE (ro : List RO) : Option (Exit × Tr Value × LM) → Option (Value × LM)
  | some (.normal, l, L) | some (.ret, l, L) => match retV (lfr l) (toMem L) ro with
    | some v => frcV 6 v fun v => some (v, L)
    | none => none
  | _ => none
noncomputable def lfill {β : Type} (vs : List Value) : Nat → Tr Value → (Tr Value → Option β) → Option β :=
  List.rec (fun _ l k => k l) (fun v _ ih i l k => frcV 6 v fun v => lset l (some i) v fun l => ih (Nat.succ i) l k) vs
theorem lfill_ok {β : Type} {k : Tr Value → Option β} {r : β} : ∀ (vs : List Value) (i : Nat) (l : Tr Value), lfill vs i l k = some r → ∃ l', k l' = some r ∧ ∀ j, lfr l' j = if i ≤ j ∧ j < i + vs.length then vs.getD (j - i) undef else lfr l j
  | [], i, l, h => ⟨l, h, fun j => by rw [if_neg (by show ¬ (i ≤ j ∧ j < i + 0); omega)]⟩
  | v :: vs, i, l, h => by
    have h : (frcV 6 v fun v => lset l (some i) v fun l => lfill vs (Nat.succ i) l k) = some r := h
    rw [frcV_eq] at h
    obtain ⟨l1, h1, h2⟩ := lset_ok h
    obtain ⟨l2, h3, h4⟩ := lfill_ok vs _ _ h1
    refine ⟨l2, h3, fun j => ?_⟩
    rw [h4 j, h2]
    simp only [updo, upd, List.length_cons]
    by_cases hj : j = i
    · subst hj
      rw [if_neg (by omega), if_pos rfl, if_pos (by omega)]
      simp
    · rw [if_neg hj]
      by_cases hr : i + 1 ≤ j ∧ j < i + 1 + vs.length
      · rw [if_pos (by omega), if_pos (by omega), show j - i = (j - (i + 1)) + 1 from by omega]
        simp
      · rw [if_neg (by omega), if_neg (by omega)]
theorem lfill_args {β : Type} {k : Tr Value → Option β} {r : β} {vs : List Value} (h : lfill vs 0 .e k = some r) : ∃ l', k l' = some r ∧ lfr l' = frA vs := by
  obtain ⟨l', h1, h2⟩ := lfill_ok vs 0 .e h
  refine ⟨l', h1, ?_⟩
  funext j
  rw [h2 j]
  simp only [Nat.zero_le, true_and, Nat.zero_add, Nat.sub_zero]
  split
  · rfl
  · rename_i hj
    rw [lfr_e]
    have hn : vs[j]? = none := List.getElem?_eq_none (by omega)
    simp [frA, List.getD_eq_getElem?_getD, hn]
noncomputable def callF (T : List TE) (X : CallE) (rec : RunE) : CallE := fun f args L => match findT T f with
  | some t => match Nat.ble args.length t.N with
    | true => lfill args 0 .e fun l => endE t.ro (rec t.rc l L)
    | false => none
  | none => X f args L
noncomputable def runC (T : List TE) (X : CallE) (P : Program) (n : Nat) : RunE := Nat.rec (fun _ _ _ => none) (fun _ ih => stepC ih (callF T X ih) P) n
theorem runC_zero (T : List TE) (X : CallE) (P : Program) : runC T X P 0 = fun _ _ _ => none := rfl
theorem runC_succ (T : List TE) (X : CallE) (P : Program) (n : Nat) : runC T X P (n + 1) = stepC (runC T X P n) (callF T X (runC T X P n)) P := rfl

/-! That it holds. -/
def XOk (P : Program) (X : CallE) : Prop := ∀ w0 f args L v L', X f args L = some (v, L') → ∀ Q : Value → Mem → Prop, Q v (toMem L') → AbC P w0 f args (toMem L) Q
def TOk (P : Program) (T : List TE) : Prop := ∀ t ∈ T, ∃ certs, okFn P t.f t.N certs = some (t.rc, t.ro)

section
variable {P : Program} {w0 : World}
def CallOk (P : Program) (w0 : World) (call : CallE) : Prop := ∀ f args L v L', call f args L = some (v, L') → ∀ Q : Value → Mem → Prop, Q v (toMem L') → AbC P w0 f args (toMem L) Q
def RunOk (P : Program) (w0 : World) (run : RunE) : Prop := ∀ rc l L e l' L', run rc l L = some (e, l', L') → ∀ Q : AQ, Q e (lfr l') (toMem L') → AbW P w0 rc Q (lfr l) (toMem L)

theorem stepK_ok {call : CallE} (hc : CallOk P w0 call) {k : RK} {l : Tr Value} {L L' : LM} {v : Value} (h : stepK call P k l L = some (v, L')) {R : Value → Mem → Prop} (hR : R v (toMem L')) : SK P w0 k (lfr l) (toMem L) R := by
  unfold stepK at h
  unfold SK
  split at h
  · split at h
    · rename_i o v' hv
      simp at h; obtain ⟨rfl, rfl⟩ := h
      simp only [eR_eq hv]; exact hR
    · cases h
  · simp at h; obtain ⟨rfl, rfl⟩ := h
    exact hR
  · simp only [eE_eq h]; exact hR
  · split at h
    · rename_i o f args hd
      simp only [hd]
      exact hc _ _ _ _ _ h R hR
    · cases h
  · cases h

theorem runS_ok {call : CallE} (hc : CallOk P w0 call) : ∀ (sp : List Sp) (l : Tr Value) (L : LM) (l' : Tr Value) (L' : LM), runS call P sp l L = some (l', L') → ∀ K : Fr → Mem → Prop, K (lfr l') (toMem L') → RS P w0 K sp (lfr l) (toMem L)
  | [], l, L, l', L', h, K, hK => by
    have h : some (l, L) = some (l', L') := h
    simp at h; obtain ⟨rfl, rfl⟩ := h
    exact hK
  | s :: rest, l, L, l', L', h, K, hK => by
    have h : runS1 call P s (runS call P rest) l L = some (l', L') := h
    unfold runS1 at h
    unfold RS
    split at h
    · rename_i hw
      rw [if_pos hw]
      split at h
      · rename_i v L1 hk
        rw [frcV_eq] at h
        obtain ⟨l1, h1, h2⟩ := lset_ok h
        refine stepK_ok hc hk ?_
        unfold contK
        rw [← h2]
        split at h1
        · rename_i hst
          rw [hst]
          exact ⟨trivial, runS_ok hc rest _ _ _ _ h1 K hK⟩
        · split at h1
          · rename_i hst
            exact ⟨stabB_ok hst, runS_ok hc rest _ _ _ _ h1 K hK⟩
          · cases h1
      · cases h
    · rename_i hw
      obtain ⟨l1, h1, h2⟩ := lset_ok h
      rw [if_neg (by rw [hw]; simp), ← h2]
      exact runS_ok hc rest _ _ _ _ h1 K hK

theorem callF_ok {T : List TE} {X : CallE} (hT : TOk P T) (hX : XOk P X) {run : RunE} (hr : RunOk P w0 run) : CallOk P w0 (callF T X run) := by
  intro f args L v L' h Q hQ
  unfold callF at h
  split at h
  · rename_i t ht
    have hmem : ∀ (T : List TE), findT T f = some t → t ∈ T ∧ t.f = f := by
      intro T
      induction T with
      | nil => intro h; cases h
      | cons x r ih =>
        intro h
        unfold findT at h
        split at h
        · rename_i hb
          simp at h; subst h
          exact ⟨by simp, by simpa using hb⟩
        · exact ⟨by simp [(ih h).1], (ih h).2⟩
    obtain ⟨h1, rfl⟩ := hmem T ht
    obtain ⟨certs, hok⟩ := hT t h1
    split at h
    case h_2 => cases h
    rename_i hle
    refine AbC_fn hok (Nat.le_of_ble_eq_true hle) ?_
    obtain ⟨l0, h, hl0⟩ := lfill_args h
    rw [← hl0]
    have fin : ∀ e l1 L1, run t.rc l0 L = some (e, l1, L1) → (e = .normal ∨ e = .ret) → (match retV (lfr l1) (toMem L1) t.ro with | some v => frcV 6 v fun v => some (v, L1) | none => none) = some (v, L') → AbW P w0 t.rc (bodyA t.ro Q) (lfr l0) (toMem L) := by
      intro e l1 L1 h1 he h
      refine hr _ _ _ _ _ _ h1 _ ?_
      split at h
      · rename_i v' hv
        rw [frcV_eq] at h
        simp at h
        obtain ⟨rfl, rfl⟩ := h
        rcases he with rfl | rfl <;> simp [bodyA, hv, hQ]
      · cases h
    unfold endE at h
    split at h
    · rename_i l1 L1 h1
      exact fin _ _ _ h1 (.inl rfl) h
    · rename_i l1 L1 h1
      exact fin _ _ _ h1 (.inr rfl) h
    · cases h
  · exact hX w0 _ _ _ _ _ h Q hQ

theorem runC_ok {T : List TE} {X : CallE} (hT : TOk P T) (hX : XOk P X) : ∀ n, RunOk P w0 (runC T X P n) := by
  intro n
  induction n using Nat.strongRecOn with
  | _ n ih =>
    intro rc l L e l' L' h Q hQ
    cases n with
    | zero => simp [runC_zero] at h
    | succ n =>
      have hn := ih n (by omega)
      have hc := callF_ok hT hX hn
      rw [runC_succ] at h
      unfold stepC at h
      cases rc with
      | skip => simp at h; obtain ⟨rfl, rfl, rfl⟩ := h; exact hQ
      | run sp =>
        simp only [] at h
        split at h
        · rename_i l1 L1 h1
          simp at h; obtain ⟨rfl, rfl, rfl⟩ := h
          exact runS_ok hc sp _ _ _ _ h1 _ hQ
        · cases h
      | seq a b =>
        simp only [] at h
        split at h
        · rename_i l1 L1 h1
          exact hn _ _ _ _ _ _ h1 _ (hn _ _ _ _ _ _ h Q hQ)
        · rename_i hne
          refine hn _ _ _ _ _ _ h _ ?_
          cases e with
          | normal => exact (hne _ _ h).elim
          | _ => exact hQ
      | cond c x y =>
        simp only [] at h
        unfold AbW
        split at h
        · rename_i hv
          simp only [hv]; exact hn _ _ _ _ _ _ h Q hQ
        · rename_i hv
          simp only [hv]; exact hn _ _ _ _ _ _ h Q hQ
        · cases h
      | block id b =>
        simp only [] at h
        show AbW P w0 b (inBlockA id Q) (lfr l) (toMem L)
        split at h
        · rename_i i l1 L1 h1
          refine hn _ _ _ _ _ _ h1 _ ?_
          split at h
          · rename_i hb
            simp at h; obtain ⟨rfl, rfl, rfl⟩ := h
            simp only [inBlockA]
            rw [if_pos (by simpa using hb)]; exact hQ
          · rename_i hb
            simp at h; obtain ⟨rfl, rfl, rfl⟩ := h
            simp only [inBlockA]
            rw [if_neg (Nat.ne_of_beq_eq_false hb)]; exact hQ
        · rename_i hne
          refine hn _ _ _ _ _ _ h _ ?_
          cases e with
          | exit i => exact (hne _ _ _ h).elim
          | _ => exact hQ
      | loop b =>
        refine ⟨fun k ts m => k ≤ n + 1 ∧ ∃ l L e l' L', ts = lfr l ∧ m = toMem L ∧ runC T X P k (.loop b) l L = some (e, l', L') ∧ Q e (lfr l') (toMem L'), n + 1, ⟨Nat.le_refl _, l, L, e, l', L', rfl, rfl, by rw [runC_succ]; unfold stepC; exact h, hQ⟩, ?_⟩
        rintro k ts m ⟨hk, l, L, e, l', L', rfl, rfl, h, hQ⟩
        cases k with
        | zero => simp [runC_zero] at h
        | succ k =>
          have hk' := ih k (by omega)
          rw [runC_succ] at h; unfold stepC at h
          simp only [] at h
          split at h
          · rename_i l1 L1 h1
            exact hk' _ _ _ _ _ _ h1 _ ⟨k, by omega, by omega, l1, L1, e, l', L', rfl, rfl, h, hQ⟩
          · rename_i hne
            refine hk' _ _ _ _ _ _ h _ ?_
            cases e with
            | normal => exact (hne _ _ h).elim
            | _ => exact hQ
      | exit id => simp at h; obtain ⟨rfl, rfl, rfl⟩ := h; exact hQ
      | scope b =>
        simp only [] at h
        show AbW P w0 b (noGotoA Q) (lfr l) (toMem L)
        split at h
        · cases h
        · rename_i hne
          refine hn _ _ _ _ _ _ h _ ?_
          cases e with
          | goto i => exact (hne _ _ _ h).elim
          | _ => exact hQ
      | jumps b l1 r1 l2 r2 =>
        have step : ∀ (J : Bool → Fr → Mem → Prop) (b : RC) (k : Nat) l L e l' L', k ≤ n → stepC (runC T X P k) (callF T X (runC T X P k)) P (.jumps b l1 r1 l2 r2) l L = some (e, l', L') → Q e (lfr l') (toMem L') →
            (∀ (x : Bool) l1' L1', runC T X P k (.jumps (if x then r2 else r1) l1 r1 l2 r2) l1' L1' = some (e, l', L') → J x (lfr l1') (toMem L1')) → AbW P w0 b (jumpA l1 l2 J Q) (lfr l) (toMem L) := by
          intro J b k l L e l' L' hk h hQ hJ
          have hk' := ih k (by omega)
          simp only [stepC] at h
          split at h
          · rename_i i l1' L1' h1
            refine hk' _ _ _ _ _ _ h1 _ ?_
            split at h
            · rename_i hb
              exact .inl ⟨Nat.eq_of_beq_eq_true hb, hJ false _ _ h⟩
            · split at h
              · rename_i hb
                exact .inr ⟨Nat.eq_of_beq_eq_true hb, hJ true _ _ h⟩
              · cases h
          · rename_i hne
            refine hk' _ _ _ _ _ _ h _ ?_
            cases e with
            | goto i => exact (hne _ _ _ h).elim
            | _ => exact hQ
        have pass : ∀ (x : Bool) k ts m, (k ≤ n ∧ ∃ l L e l' L', ts = lfr l ∧ m = toMem L ∧ runC T X P k (.jumps (if x then r2 else r1) l1 r1 l2 r2) l L = some (e, l', L') ∧ Q e (lfr l') (toMem L')) →
            AbW P w0 (if x then r2 else r1) (jumpA l1 l2 (ltK (fun (x : Bool) k ts m => k ≤ n ∧ ∃ l L e l' L', ts = lfr l ∧ m = toMem L ∧ runC T X P k (.jumps (if x then r2 else r1) l1 r1 l2 r2) l L = some (e, l', L') ∧ Q e (lfr l') (toMem L')) k) Q) ts m := by
          rintro x k ts m ⟨hk, l, L, e, l', L', rfl, rfl, h, hQ⟩
          cases k with
          | zero => simp [runC_zero] at h
          | succ k => exact step _ _ k _ _ _ _ _ (by omega) (by rw [runC_succ] at h; exact h) hQ fun y l1' L1' hr => ⟨k, by omega, by omega, l1', L1', e, l', L', rfl, rfl, hr, hQ⟩
        refine ⟨fun (x : Bool) k ts m => k ≤ n ∧ ∃ l L e l' L', ts = lfr l ∧ m = toMem L ∧ runC T X P k (.jumps (if x then r2 else r1) l1 r1 l2 r2) l L = some (e, l', L') ∧ Q e (lfr l') (toMem L'), ?_, fun k ts m hI => pass false k ts m hI, fun k ts m hI => pass true k ts m hI⟩
        exact step _ b n _ _ _ _ _ (Nat.le_refl _) h hQ fun y l1' L1' hr => ⟨n, Nat.le_refl _, l1', L1', e, l', L', rfl, rfl, hr, hQ⟩
      | label k => simp at h; obtain ⟨rfl, rfl, rfl⟩ := h; exact hQ
      | goto k => simp at h; obtain ⟨rfl, rfl, rfl⟩ := h; exact hQ
      | ret => simp at h; obtain ⟨rfl, rfl, rfl⟩ := h; exact hQ
      | stop => cases h

/-- A call that is reckoned through. -/
noncomputable def callE (T : List TE) (X : CallE) (P : Program) (n : Nat) : CallE := callF T X (runC T X P n)
theorem callE_ok {T : List TE} {X : CallE} (hT : TOk P T) (hX : XOk P X) (n : Nat) : CallOk P w0 (callE T X P n) := callF_ok hT hX (runC_ok hT hX n)
noncomputable def outIs (v : Value) : Option (Value × LM) → Bool
  | some (u, _) => eqV 6 u v
  | none => false
theorem outIs_ok {v : Value} {r : Option (Value × LM)} (h : outIs v r = true) : ∃ L', r = some (v, L') := by
  unfold outIs at h
  split at h
  · rename_i u L'
    exact ⟨L', by rw [eqV_eq _ _ _ h]⟩
  · cases h
end
end Go.Proofs.YtgfkjldohilmkaaDoor.Ab
