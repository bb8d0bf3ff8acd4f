/- A manifest's text is read back (plain law; no program). -/
import Derived.Test.YtgfkjldohilmkaaDoorAbz
import Derived.Test.YtgfkjldohilmkaaDoorAbmtA
import Derived.Test.YtgfkjldohilmkaaDoorAbas3m
set_option linter.unusedVariables false
set_option linter.unusedSimpArgs false
namespace Go.Proofs.YtgfkjldohilmkaaDoor.Ab
open Go Go.RowKit
set_option maxRecDepth 100000

/-! Names in quotes. -/
def StrOk (t : List UInt8) : Prop := ∃ e, escL t = some e ∧ ∀ r, qd (e ++ 34 :: r) = some (e.length + 1, t)
theorem strOk_nil : StrOk [] := ⟨[], rfl, fun r => qd_q rfl⟩
theorem esc_round {c : UInt8} {a : List UInt8} (h : escC c = some a) {X : List UInt8} {n : Nat} {t : List UInt8} (hX : qd X = some (n, t)) : qd (a ++ X) = some (n + a.length, c :: t) := by
  unfold escC at h
  split at h
  · rename_i hc
    have : c = 13 := UInt8.toNat_inj.1 hc
    subst this
    cases h
    show qd (92 :: 114 :: X) = _
    rw [qd_e2 rfl (show escD 114 = some 13 from rfl), hX]
    rfl
  · split at h
    · rename_i hc
      have : c = 10 := UInt8.toNat_inj.1 hc
      subst this
      cases h
      show qd (92 :: 110 :: X) = _
      rw [qd_e2 rfl (show escD 110 = some 10 from rfl), hX]
      rfl
    · split at h
      · cases h
      · rename_i hr
        split at h
        · rename_i hc
          cases h
          show qd (92 :: c :: X) = _
          have hd : escD c = some c := by
            rcases hc with hc | hc
            · have : c = 34 := UInt8.toNat_inj.1 hc
              subst this; rfl
            · have : c = 92 := UInt8.toNat_inj.1 hc
              subst this; rfl
          rw [qd_e2 rfl hd, hX]
          rfl
        · rename_i hc
          cases h
          show qd (c :: X) = _
          rw [qd_ch hr (fun e => hc (.inl e)) (fun e => hc (.inr e)), hX]
          rfl
theorem strOk_cons {c : UInt8} {t : List UInt8} (hc : (escC c).isSome = true) (ht : StrOk t) : StrOk (c :: t) := by
  obtain ⟨a, ha⟩ := Option.isSome_iff_exists.1 hc
  obtain ⟨e, he, hq⟩ := ht
  refine ⟨a ++ e, by simp [escL, ha, he], fun r => ?_⟩
  rw [List.append_assoc, esc_round ha (hq r), List.length_append]
  congr 2
  omega
theorem esc_x {e x : UInt8} (h : escD e = some x) : (escC x).isSome = true := by
  unfold escD at h
  split at h
  · cases h; rfl
  · split at h
    · cases h; rfl
    · split at h
      · cases h; rfl
      · split at h
        · cases h; rfl
        · cases h
theorem esc_c {c : UInt8} (h : ¬ (c.toNat < 32 ∨ 126 < c.toNat)) : (escC c).isSome = true := by
  unfold escC
  rw [if_neg (by omega), if_neg (by omega), if_neg h]
  split <;> rfl
theorem qd_ok : ∀ {l : List UInt8} {n : Nat} {t : List UInt8}, qd l = some (n, t) → StrOk t ∧ t.length ≤ n
  | [], _, _, h => by simp [qd] at h
  | [c], n, t, h => by
    simp only [qd] at h
    split at h
    · cases h; exact ⟨strOk_nil, by simp⟩
    · cases h
  | c :: e :: r, n, t, h => by
    simp only [qd] at h
    split at h
    · cases h; exact ⟨strOk_nil, by simp⟩
    · split at h
      · cases h
      · rename_i hr
        split at h
        · split at h
          · rename_i x hx
            cases hq : qd r with
            | none => simp [hq] at h
            | some p =>
              simp only [hq, Option.map_some, Option.some.injEq, Prod.mk.injEq] at h
              obtain ⟨rfl, rfl⟩ := h
              have := qd_ok (n := p.1) (t := p.2) hq
              exact ⟨strOk_cons (esc_x hx) this.1, by have := this.2; simp; omega⟩
          · cases h
        · cases hq : qd (e :: r) with
          | none => simp [hq] at h
          | some p =>
            simp only [hq, Option.map_some, Option.some.injEq, Prod.mk.injEq] at h
            obtain ⟨rfl, rfl⟩ := h
            have := qd_ok (n := p.1) (t := p.2) hq
            exact ⟨strOk_cons (esc_c hr) this.1, by have := this.2; simp; omega⟩

/-! What tokens hold. -/
def TkOk (N : Nat) (t : Tk) : Prop := (t.kd = 2 → 0 ≤ t.vl ∧ t.vl ≤ 4294967295) ∧ (t.kd = 3 → StrOk t.tx) ∧ t.tx.length ≤ N
theorem numV_le {l : List UInt8} {v : Nat} (h : numV l = some v) : v ≤ 4294967295 := by
  unfold numV at h
  split at h
  · rename_i w hw
    split at h
    · cases h
      exact puL_le _ _ _ (by omega) hw
    · cases h
  · cases h
theorem oneL_ok {l : List UInt8} {t : Tk} {n : Nat} (h : oneL l = some (t, n)) : TkOk l.length t := by
  cases l with
  | nil => simp [oneL] at h
  | cons c r =>
    have tk : ∀ k : Nat, ((c :: r).take k).length ≤ (c :: r).length := fun k => by rw [List.length_take]; omega
    simp only [oneL] at h
    split at h
    · simp only [Option.some.injEq, Prod.mk.injEq] at h
      obtain ⟨rfl, rfl⟩ := h
      exact ⟨(fun h => absurd (show (1 : Int) = 2 from h) (by decide)), (fun h => absurd (show (1 : Int) = 3 from h) (by decide)), tk _⟩
    · split at h
      · cases hv : numV (c :: r) with
        | none => simp [hv] at h
        | some v =>
          simp only [hv, Option.map_some, Option.some.injEq, Prod.mk.injEq] at h
          obtain ⟨rfl, rfl⟩ := h
          have := numV_le hv
          exact ⟨(fun _ => by show (0 : Int) ≤ (v : Int) ∧ (v : Int) ≤ 4294967295; omega), (fun h => absurd (show (2 : Int) = 3 from h) (by decide)), tk _⟩
      · split at h
        · cases hq : qd r with
          | none => simp [hq] at h
          | some p =>
            simp only [hq, Option.map_some, Option.some.injEq, Prod.mk.injEq] at h
            obtain ⟨rfl, rfl⟩ := h
            have h1 := qd_ok (n := p.1) (t := p.2) hq
            have h2 := qd_len (n := p.1) (t := p.2) hq
            exact ⟨(fun h => absurd (show (3 : Int) = 2 from h) (by decide)), (fun _ => h1.1), by show p.2.length ≤ r.length + 1; omega⟩
        · split at h
          · simp only [Option.some.injEq, Prod.mk.injEq] at h
            obtain ⟨rfl, rfl⟩ := h
            exact ⟨(fun h => absurd (show (4 : Int) = 2 from h) (by decide)), (fun h => absurd (show (4 : Int) = 3 from h) (by decide)), by simp⟩
          · cases h
theorem endT_ok (N : Nat) : TkOk N endT := ⟨(fun h => absurd (show (0 : Int) = 2 from h) (by decide)), (fun h => absurd (show (0 : Int) = 3 from h) (by decide)), by simp [endT]⟩
theorem TkOk.mono {N M : Nat} {t : Tk} (h : TkOk N t) (hNM : N ≤ M) : TkOk M t := ⟨h.1, h.2.1, Nat.le_trans h.2.2 hNM⟩
theorem preC_inr {ts us : List (Tk × Nat)} {c : Cuts} (h : preC ts c = .inr us) : ∃ vs, c = .inr vs ∧ us = ts ++ vs := by
  cases c with
  | inl e => cases h
  | inr vs => cases h; exact ⟨vs, rfl, rfl⟩
theorem cutF_ok (N : Nat) : ∀ (k a : Nat) (l : List UInt8) (us : List (Tk × Nat)), l.length ≤ N → cutF k a l = .inr us → ∀ p ∈ us, TkOk N p.1
  | 0, a, l, us, hl, h => by cases h; intro p hp; simp at hp; subst hp; exact endT_ok N
  | k + 1, a, [], us, hl, h => by cases h; intro p hp; simp at hp; subst hp; exact endT_ok N
  | k + 1, a, c :: r, us, hl, h => by
    simp only [cutF] at h
    have hl' : r.length + 1 ≤ N := hl
    split at h
    · exact cutF_ok N k _ r us (by omega) h
    · split at h
      · exact cutF_ok N k _ _ us (by rw [List.length_drop]; simp; omega) h
      · split at h
        · cases h
        · rename_i t n ho
          obtain ⟨vs, hv, rfl⟩ := preC_inr h
          intro p hp
          rcases List.mem_append.1 hp with hp | hp
          · simp at hp; subst hp
            exact (oneL_ok ho).mono hl
          · exact cutF_ok N k _ _ vs (by rw [List.length_drop]; simp; omega) hv p hp
theorem PlL_at {L : List UInt8} : ∀ {us : List (Tk × Nat)} {pr : Int}, PlL L pr us → ∀ p ∈ us, p.2 ≤ L.length
  | [], _, _, p, hp => by cases hp
  | q :: us, pr, h, p, hp => by
    obtain ⟨-, -, h3, -, h5⟩ := h
    rcases List.mem_cons.1 hp with rfl | hp
    · exact h3
    · exact PlL_at h5 p hp
end Go.Proofs.YtgfkjldohilmkaaDoor.Ab
/- A manifest's text has the tokens of its entries, and the parser reads them (plain law; no program). -/
set_option linter.unusedVariables false
set_option linter.unusedSimpArgs false
namespace Go.Proofs.YtgfkjldohilmkaaDoor.Ab
open Go Go.RowKit
set_option maxRecDepth 100000

def EnG (e : En) : Prop := StrOk e.nm.data.toList ∧ (0 ≤ e.a ∧ e.a ≤ 4294967295) ∧ (0 ≤ e.s ∧ e.s ≤ 4294967295) ∧ (0 ≤ e.p ∧ e.p ≤ 4294967295) ∧ (e.w = 0 ∨ e.w = 1 ∨ e.w = 2 ∨ e.w = 3)

/-! One text begins with these tokens; what comes behind. -/
def Cx (l : List UInt8) (ts : List Tk) (r : List UInt8) : Prop := ∀ a, ∃ a' us, us.map (·.1) = ts ∧ cutL a l = preC us (cutL a' r)
theorem Cx.refl (l : List UInt8) : Cx l [] l := fun a => ⟨a, [], rfl, (preC_nil _).symm⟩
theorem Cx.trans {l r r' : List UInt8} {ts ts' : List Tk} (h : Cx l ts r) (k : Cx r ts' r') : Cx l (ts ++ ts') r' := fun a => by
  obtain ⟨a1, us, e, h1⟩ := h a
  obtain ⟨a2, vs, e2, h2⟩ := k a1
  exact ⟨a2, us ++ vs, by simp [e, e2], by rw [h1, h2, preC_pre]⟩
theorem cx_bl {c : UInt8} {r : List UInt8} (h : isBl c = true) : Cx (c :: r) [] r := fun a => ⟨a + 1, [], rfl, by rw [cutL_bl h, preC_nil]⟩
theorem cx_tok {c : UInt8} {l r : List UInt8} {t : Tk} (hb : isBl c = false) (h2 : c.toNat ≠ 35) (ho : oneL (c :: l ++ r) = some (t, (c :: l).length)) : Cx (c :: l ++ r) [t] r := fun a => by
  refine ⟨a + (c :: l).length, [(t, a)], rfl, ?_⟩
  have this : cutL a (c :: l ++ r) = preC [(t, a)] (cutL (a + (c :: l).length) ((c :: l ++ r).drop (c :: l).length)) := cutL_some hb h2 ho
  rw [List.drop_left] at this
  exact this
theorem wordN_app : ∀ (w : List UInt8) (b : Bool) {x : UInt8} {r : List UInt8}, wordN b w = w.length → w ≠ [] → wq true x = false → wordN b (w ++ x :: r) = w.length
  | [], _, _, _, _, h, _ => absurd rfl h
  | c :: w, b, x, r, h, _, hx => by
    simp only [wordN, List.length_cons] at h
    simp only [List.cons_append, wordN, List.length_cons]
    split at h
    · rename_i hc
      rw [if_pos hc]
      cases w with
      | nil => simp [wordN, hx]
      | cons d w => rw [wordN_app (d :: w) true (by omega) (by simp) hx]
    · cases h
theorem let_facts {c : UInt8} (h : isLet c = true) : isBl c = false ∧ c.toNat ≠ 35 := by
  simp only [isLet, Bool.and_eq_true, decide_eq_true_eq] at h
  refine ⟨?_, by omega⟩
  simp only [isBl, Bool.or_eq_false_iff, beq_eq_false_iff_ne]; omega
theorem cx_word {c : UInt8} {w : List UInt8} {x : UInt8} {r : List UInt8} (hl : isLet c = true) (hw : wordN false (c :: w) = (c :: w).length) (hx : wq true x = false) : Cx (c :: w ++ x :: r) [⟨1, c :: w, 0⟩] (x :: r) := by
  refine cx_tok (let_facts hl).1 (let_facts hl).2 ?_
  have h := wordN_app (c :: w) false (x := x) (r := r) hw (by simp) hx
  have h' : wordN false (c :: (w ++ x :: r)) = (c :: w).length := h
  show oneL (c :: (w ++ x :: r)) = _
  simp only [oneL, hl, if_true, h']
  congr 3
  rw [show c :: (w ++ x :: r) = c :: w ++ x :: r from rfl, List.take_left]
theorem runN_app {p : UInt8 → Bool} : ∀ {l : List UInt8} {x : UInt8} {r : List UInt8}, (∀ c ∈ l, p c = true) → p x = false → runN p (l ++ x :: r) = l.length
  | [], x, r, _, hx => by simp [runN, hx]
  | c :: l, x, r, h, hx => by
    simp only [List.cons_append, runN, h c (by simp), if_true, List.length_cons]
    rw [runN_app (fun c hc => h c (by simp [hc])) hx]
theorem cx_hex {n : Nat} {r : List UInt8} (hn : n ≤ 4294967295) : Cx (48 :: 120 :: digs 16 n ++ 32 :: r) [⟨2, 48 :: 120 :: digs 16 n, (n : Nat)⟩] (32 :: r) := by
  refine cx_tok (l := 120 :: digs 16 n) rfl (by decide) ?_
  have hN : nN (48 :: 120 :: (digs 16 n ++ 32 :: r)) = (digs 16 n).length + 2 := by
    unfold nN
    rw [show nB (48 :: 120 :: (digs 16 n ++ 32 :: r)) = 16 from rfl, show nF (48 :: 120 :: (digs 16 n ++ 32 :: r)) = 2 from rfl]
    show 2 + runN (inB 16) (digs 16 n ++ 32 :: r) = _
    rw [runN_app (digs16_all n) rfl]; omega
  have hD : nDs (48 :: 120 :: (digs 16 n ++ 32 :: r)) = digs 16 n := by
    unfold nDs
    rw [hN, show nF (48 :: 120 :: (digs 16 n ++ 32 :: r)) = 2 from rfl]
    show (48 :: 120 :: (digs 16 n ++ 32 :: r).take (digs 16 n).length).drop 2 = digs 16 n
    rw [List.take_left]; rfl
  have hv : numV (48 :: 120 :: (digs 16 n ++ 32 :: r)) = some n := by
    unfold numV
    rw [hD, show nB (48 :: 120 :: (digs 16 n ++ 32 :: r)) = 16 from rfl, puL_digs (by omega) n hn, hN]
    have : (48 :: 120 :: (digs 16 n ++ 32 :: r)).drop ((digs 16 n).length + 2) = 32 :: r := by
      show (digs 16 n ++ 32 :: r).drop (digs 16 n).length = _
      rw [List.drop_left]
    rw [this]
    simp [wordN, wq, isLet]
  show oneL (48 :: 120 :: (digs 16 n ++ 32 :: r)) = _
  have h1 : isLet 48 = false := rfl
  have h2 : isDig 48 = true := rfl
  have e1 : (48 :: 120 :: (digs 16 n ++ 32 :: r)).take ((digs 16 n).length + 2) = 48 :: 120 :: digs 16 n := by
    show 48 :: 120 :: (digs 16 n ++ 32 :: r).take (digs 16 n).length = _
    rw [List.take_left]
  simp only [oneL, h1, h2, if_true, Bool.false_eq_true, if_false, hv, Option.map_some, hN, e1]
  rfl
theorem cx_dec {n : Nat} {r : List UInt8} (hn : n ≤ 4294967295) : Cx (digs 10 n ++ 32 :: r) [⟨2, digs 10 n, (n : Nat)⟩] (32 :: r) := by
  have hall := digs10_all n
  have hh : hexH (digs 10 n ++ 32 :: r) = false := by
    obtain ⟨c, l, e⟩ := digs_cons 10 n
    rw [e] at hall ⊢
    cases l with
    | nil => simp [hexH]
    | cons d l =>
      have := (dig_facts (hall d (by simp))).2.2.2
      simp [hexH, this]
  have hB : nB (digs 10 n ++ 32 :: r) = 10 := by simp [nB, hh]
  have hF : nF (digs 10 n ++ 32 :: r) = 0 := by simp [nF, hh]
  have hN : nN (digs 10 n ++ 32 :: r) = (digs 10 n).length := by
    unfold nN
    rw [hB, hF, Nat.zero_add, List.drop_zero]
    exact runN_app (fun c hc => by simp [inB, hall c hc]) rfl
  have hD : nDs (digs 10 n ++ 32 :: r) = digs 10 n := by
    unfold nDs
    rw [hN, hF, List.drop_zero, List.take_left]
  have hv : numV (digs 10 n ++ 32 :: r) = some n := by
    unfold numV
    rw [hD, hB, puL_digs (by omega) n hn, hN, List.drop_left]
    simp [wordN, wq, isLet]
  obtain ⟨c, l, e⟩ := digs_cons 10 n
  rw [e] at hall hN hv ⊢
  have hd := hall c (by simp)
  obtain ⟨h1, h2, h3, -⟩ := dig_facts hd
  refine cx_tok h2 h3 ?_
  have hv : numV (c :: (l ++ 32 :: r)) = some n := hv
  have hN : nN (c :: (l ++ 32 :: r)) = (c :: l).length := hN
  show oneL (c :: (l ++ 32 :: r)) = _
  simp only [oneL, h1, hd, if_true, Bool.false_eq_true, if_false, hv, Option.map_some, hN]
  congr 3
  rw [show c :: (l ++ 32 :: r) = c :: l ++ 32 :: r from rfl, List.take_left]
theorem cx_quo {t r : List UInt8} (h : StrOk t) : Cx (qL t ++ r) [⟨3, t, 0⟩] r := by
  obtain ⟨e, he, hq⟩ := h
  have e1 : qL t = 34 :: (e ++ [34]) := by unfold qL; rw [he]
  rw [e1]
  refine cx_tok (l := e ++ [34]) rfl (by decide) ?_
  have h1 : isLet 34 = false := rfl
  have h2 : isDig 34 = false := rfl
  have h3 : (34 : UInt8).toNat = 34 := rfl
  show oneL (34 :: (e ++ [34] ++ r)) = _
  have hq' : qd (e ++ [34] ++ r) = some (e.length + 1, t) := by rw [List.append_assoc]; exact hq r
  simp only [oneL, h1, h2, h3, if_true, Bool.false_eq_true, if_false, hq', Option.map_some]
  simp
theorem cx_sign {r : List UInt8} : Cx (59 :: r) [⟨4, [59], 0⟩] r := by
  refine cx_tok (l := []) (r := r) rfl (by decide) ?_
  rfl

/-- A line's tokens. -/
def tokE (e : En) : List Tk := [⟨1, [105, 109, 97, 103, 101], 0⟩, ⟨3, e.nm.data.toList, 0⟩, ⟨1, [97, 116], 0⟩, ⟨2, 48 :: 120 :: digs 16 e.a.toNat, e.a⟩, ⟨1, [115, 105, 122, 101], 0⟩, ⟨2, digs 10 e.s.toNat, e.s⟩, ⟨1, [112, 114, 105, 110, 116], 0⟩, ⟨2, 48 :: 120 :: digs 16 e.p.toNat, e.p⟩, ⟨1, [98, 121], 0⟩, ⟨1, wayL e.w, 0⟩, ⟨4, [59], 0⟩]
theorem way_cons {w : Int} (h : w = 0 ∨ w = 1 ∨ w = 2 ∨ w = 3) : ∃ c l, wayL w = c :: l ∧ isLet c = true ∧ wordN false (c :: l) = (c :: l).length := by
  rcases h with rfl | rfl | rfl | rfl
  · exact ⟨99, [104, 101, 99, 107], rfl, rfl, rfl⟩
  · exact ⟨99, [114, 99], rfl, rfl, rfl⟩
  · exact ⟨108, [97, 114, 103, 101], rfl, rfl, rfl⟩
  · exact ⟨98, [97, 116, 99, 104], rfl, rfl, rfl⟩
theorem cx_line {e : En} (h : EnG e) (r : List UInt8) : Cx (lineL e ++ r) (tokE e) r := by
  obtain ⟨hn, ha, hs, hp, hw⟩ := h
  obtain ⟨A, hA⟩ := Int.eq_ofNat_of_zero_le ha.1
  obtain ⟨S, hS⟩ := Int.eq_ofNat_of_zero_le hs.1
  obtain ⟨P, hP⟩ := Int.eq_ofNat_of_zero_le hp.1
  obtain ⟨c, l, hc, hl, hwl⟩ := way_cons hw
  have hl1 : lineL e ++ r = 105 :: [109, 97, 103, 101] ++ 32 :: (qL e.nm.data.toList ++ 32 :: (97 :: [116] ++ 32 :: (48 :: 120 :: digs 16 A ++ 32 :: (115 :: [105, 122, 101] ++ 32 :: (digs 10 S ++ 32 :: (112 :: [114, 105, 110, 116] ++ 32 :: (48 :: 120 :: digs 16 P ++ 32 :: (98 :: [121] ++ 32 :: (c :: l ++ 59 :: 10 :: r))))))))) := by
    simp [lineL, hA, hS, hP, hc, numS_nat]
  rw [hl1]
  have ht : tokE e = [⟨1, [105, 109, 97, 103, 101], 0⟩] ++ ([] ++ ([⟨3, e.nm.data.toList, 0⟩] ++ ([] ++ ([⟨1, [97, 116], 0⟩] ++ ([] ++ ([⟨2, 48 :: 120 :: digs 16 A, (A : Nat)⟩] ++ ([] ++ ([⟨1, [115, 105, 122, 101], 0⟩] ++ ([] ++ ([⟨2, digs 10 S, (S : Nat)⟩] ++ ([] ++ ([⟨1, [112, 114, 105, 110, 116], 0⟩] ++ ([] ++ ([⟨2, 48 :: 120 :: digs 16 P, (P : Nat)⟩] ++ ([] ++ ([⟨1, [98, 121], 0⟩] ++ ([] ++ ([⟨1, c :: l, 0⟩] ++ ([⟨4, [59], 0⟩] ++ []))))))))))))))))))) := by
    simp [tokE, hA, hS, hP, hc]
  rw [ht]
  refine (cx_word rfl rfl rfl).trans ((cx_bl rfl).trans ((cx_quo hn).trans ((cx_bl rfl).trans ((cx_word rfl rfl rfl).trans ((cx_bl rfl).trans ((cx_hex (by omega)).trans ((cx_bl rfl).trans ((cx_word rfl rfl rfl).trans ((cx_bl rfl).trans ((cx_dec (by omega)).trans ((cx_bl rfl).trans ((cx_word rfl rfl rfl).trans ((cx_bl rfl).trans ((cx_hex (by omega)).trans ((cx_bl rfl).trans ((cx_word rfl rfl rfl).trans ((cx_bl rfl).trans ((cx_word hl hwl rfl).trans (cx_sign.trans (cx_bl rfl))))))))))))))))))))
theorem cx_text : ∀ (es : List En) (r : List UInt8), (∀ e ∈ es, EnG e) → Cx (es.flatMap lineL ++ r) (es.flatMap tokE) r
  | [], r, _ => Cx.refl r
  | e :: es, r, h => by
    rw [List.flatMap_cons, List.flatMap_cons, List.append_assoc]
    exact (cx_line (h e (by simp)) _).trans (cx_text es r fun x hx => h x (by simp [hx]))
theorem cut_text (es : List En) (h : ∀ e ∈ es, EnG e) : ∃ us, cutL 0 (es.flatMap lineL) = .inr us ∧ us.map (·.1) = es.flatMap tokE ++ [endT] := by
  obtain ⟨a', us, e, hc⟩ := cx_text es [] h 0
  rw [List.append_nil, cutL_nil] at hc
  exact ⟨us ++ [(endT, a')], hc, by simp [e]⟩
end Go.Proofs.YtgfkjldohilmkaaDoor.Ab
/- What the parser reads, and what it says is wrong (plain law; no program). -/
set_option linter.unusedVariables false
set_option linter.unusedSimpArgs false
namespace Go.Proofs.YtgfkjldohilmkaaDoor.Ab
open Go Go.RowKit
set_option maxRecDepth 100000

theorem tkF_map (us : List (Tk × Nat)) (k : Nat) : tkF us k = (us.map (·.1)).getD k endT := by
  unfold tkF
  simp only [List.getD, List.getElem?_map]
  cases us[k]? <;> rfl
theorem getD_app (done ts : List Tk) (i : Nat) (x : Tk) : (done ++ ts).getD (done.length + i) x = ts.getD i x := by
  simp [List.getD, List.getElem?_append_right]
theorem fits_tok {us : List (Tk × Nat)} {done rest : List Tk} {e : En} (h : EnG e) (hu : us.map (·.1) = done ++ (tokE e ++ rest)) : Fits11 us done.length e.w.toNat ∧ entT us done.length e.w.toNat = e ∧ (tkF us done.length).kd = 1 := by
  obtain ⟨hn, ha, hs, hp, hw⟩ := h
  have t : ∀ i, tkF us (done.length + i) = (tokE e ++ rest).getD i endT := fun i => by rw [tkF_map, hu, getD_app]
  have t0 : tkF us done.length = ⟨1, [105, 109, 97, 103, 101], 0⟩ := t 0
  have t1 : tkF us (done.length + 1) = ⟨3, e.nm.data.toList, 0⟩ := t 1
  have t2 : tkF us (done.length + 2) = ⟨1, [97, 116], 0⟩ := t 2
  have t3 : tkF us (done.length + 3) = ⟨2, 48 :: 120 :: digs 16 e.a.toNat, e.a⟩ := t 3
  have t4 : tkF us (done.length + 4) = ⟨1, [115, 105, 122, 101], 0⟩ := t 4
  have t5 : tkF us (done.length + 5) = ⟨2, digs 10 e.s.toNat, e.s⟩ := t 5
  have t6 : tkF us (done.length + 6) = ⟨1, [112, 114, 105, 110, 116], 0⟩ := t 6
  have t7 : tkF us (done.length + 7) = ⟨2, 48 :: 120 :: digs 16 e.p.toNat, e.p⟩ := t 7
  have t8 : tkF us (done.length + 8) = ⟨1, [98, 121], 0⟩ := t 8
  have t9 : tkF us (done.length + 9) = ⟨1, wayL e.w, 0⟩ := t 9
  have t10 : tkF us (done.length + 10) = ⟨4, [59], 0⟩ := t 10
  have wp : IntKind.u32.wrap e.p = e.p := by
    obtain ⟨P, hP⟩ := Int.eq_ofNat_of_zero_le hp.1
    simp [IntKind.wrap, IntKind.signed, IntKind.bits]
    omega
  have hway : wayOf (wayL e.w) = some e.w.toNat := by
    rcases hw with h | h | h | h <;> rw [h] <;> rfl
  refine ⟨?_, ?_, by rw [t0]⟩
  · unfold Fits11
    rw [t0, t1, t2, t3, t4, t5, t6, t7, t8, t9, t10]
    exact ⟨rfl, rfl, rfl, rfl, rfl, rfl, rfl, rfl, rfl, rfl, rfl, hway⟩
  · unfold entT
    rw [t1, t3, t5, t7, wp]
    have : ((e.w.toNat : Nat) : Int) = e.w := by omega
    rw [this]
theorem parse_back : ∀ (es : List En) (n : Nat) (us : List (Tk × Nat)) (done : List Tk) (out : List En), (∀ e ∈ es, EnG e) → us.map (·.1) = done ++ (es.flatMap tokE ++ [endT]) → es.length ≤ n → parseF n us ⟨done.length, none⟩ out = (out ++ es, none)
  | [], n, us, done, out, _, hu, _ => by
    have h0 : tkF us done.length = endT := by
      have := tkF_map us done.length
      rw [hu, show done.length = done.length + 0 from rfl, getD_app] at this
      exact this
    rw [parse_stop (fun h => h.2 (by show (tkF us done.length).kd = 0; rw [h0]; rfl)) n, List.append_nil]
  | e :: es, 0, us, done, out, _, _, hn => by simp at hn
  | e :: es, n + 1, us, done, out, hg, hu, hn => by
    have hu' : us.map (·.1) = done ++ (tokE e ++ (es.flatMap tokE ++ [endT])) := by rw [hu, List.flatMap_cons, List.append_assoc]
    obtain ⟨hf, he, hk⟩ := fits_tok (hg e (by simp)) hu'
    have hk' : (us.getD done.length tok0).1.kd ≠ 0 := by
      show (tkF us done.length).kd ≠ 0
      rw [hk]; decide
    have hl : (done ++ tokE e).length = done.length + 11 := by rw [List.length_append]; rfl
    have := parse_back es n us (done ++ tokE e) (out ++ [e]) (fun x hx => hg x (by simp [hx])) (by rw [hu', List.append_assoc]) (by simp at hn; omega)
    rw [hl] at this
    rw [parseF, if_pos ⟨rfl, hk'⟩, entryF_fit hf, he]
    show parseF n us ⟨done.length + 11, none⟩ (out ++ [e]) = _
    rw [this, List.append_assoc]
    rfl
theorem tokE_len (es : List En) : (es.flatMap tokE).length = es.length * 11 := by
  induction es with
  | nil => rfl
  | cons e es ih =>
    rw [List.flatMap_cons, List.length_append, ih, List.length_cons]
    show 11 + _ = _
    omega
theorem parseL_back {es : List En} {us : List (Tk × Nat)} (h : ∀ e ∈ es, EnG e) (hu : us.map (·.1) = es.flatMap tokE ++ [endT]) : parseL us = (es, none) := by
  have hl := congrArg List.length hu
  rw [List.length_map, List.length_append, tokE_len] at hl
  exact parse_back es us.length us [] [] h hu (by simp at hl; omega)

/-! What it reads is right. -/
theorem tkF_ok {N : Nat} {ts : List (Tk × Nat)} (h : ∀ p ∈ ts, TkOk N p.1) (k : Nat) : TkOk N (tkF ts k) := by
  unfold tkF List.getD
  cases hk : ts[k]? with
  | none => exact endT_ok N
  | some p => exact h p (List.mem_of_getElem? hk)
theorem misfit_kd {t : Tk} {kd : Int} {tx : List UInt8} (h : misfit t kd tx = false) : t.kd = kd := by
  rcases Classical.em (t.kd = kd) with e | e
  · exact e
  · rw [misfit, bneT e] at h; cases h
theorem entT_ok {N : Nat} {ts : List (Tk × Nat)} {k w : Nat} (h : ∀ p ∈ ts, TkOk N p.1) (hf : Fits11 ts k w) : EnG (entT ts k w) ∧ (entT ts k w).nm.size ≤ N := by
  obtain ⟨-, h1, -, h3, -, h5, -, h7, -, -, -, hw⟩ := hf
  have b1 := tkF_ok h (k + 1)
  have b3 := (tkF_ok h (k + 3)).1 (misfit_kd h3)
  have b5 := (tkF_ok h (k + 5)).1 (misfit_kd h5)
  have b7 := (tkF_ok h (k + 7)).1 (misfit_kd h7)
  refine ⟨⟨b1.2.1 (misfit_kd h1), b3, b5, ?_, ?_⟩, b1.2.2⟩
  · show 0 ≤ IntKind.u32.wrap (tkF ts (k + 7)).vl ∧ IntKind.u32.wrap (tkF ts (k + 7)).vl ≤ 4294967295
    simp [IntKind.wrap, IntKind.signed, IntKind.bits]
    omega
  · show (w : Int) = 0 ∨ (w : Int) = 1 ∨ (w : Int) = 2 ∨ (w : Int) = 3
    unfold wayOf at hw
    repeat' split at hw
    all_goals (cases hw <;> omega)
theorem good_out {N : Nat} : ∀ (n : Nat) (ts : List (Tk × Nat)) (s : PS) (out : List En), (∀ p ∈ ts, TkOk N p.1) → (∀ e ∈ out, EnG e ∧ e.nm.size ≤ N) → (parseF n ts s out).2 = none → ∀ e ∈ (parseF n ts s out).1, EnG e ∧ e.nm.size ≤ N
  | 0, ts, s, out, _, ho, _ => ho
  | n + 1, ts, s, out, ht, ho, h => by
    rw [parseF] at h ⊢
    split at h
    · rename_i hc
      rw [if_pos hc]
      cases hh : (entryF ts s).2.err with
      | some e =>
        rw [parse_stop (fun h => by rw [hh] at h; cases h.1) n, hh] at h
        cases h
      | none =>
        obtain ⟨w, hs, hf⟩ := entryF_none hh
        refine good_out n ts _ _ ht (fun e he => ?_) h
        rcases List.mem_append.1 he with he | he
        · exact ho e he
        · rw [hs, entryF_fit hf] at he
          simp at he
          subst he
          exact entT_ok ht hf
    · rename_i hc
      rw [if_neg hc]
      exact ho
theorem out_len : ∀ (n : Nat) (ts : List (Tk × Nat)) (s : PS) (out : List En), (parseF n ts s out).1.length ≤ out.length + n
  | 0, _, _, _ => Nat.le_refl _
  | n + 1, ts, s, out => by
    rw [parseF]
    split
    · have := out_len n ts (entryF ts s).2 (out ++ [(entryF ts s).1])
      simp at this
      omega
    · show out.length ≤ _; omega

/-! What is wrong. -/
def ErrG (N : Nat) (e : Option (Nat × Nat)) : Prop := ∀ x, e = some x → (x.1 = 2 ∨ x.1 = 3) ∧ x.2 ≤ N
theorem getD_at {N : Nat} {ts : List (Tk × Nat)} (h : ∀ p ∈ ts, p.2 ≤ N) (k : Nat) : (ts.getD k tok0).2 ≤ N := by
  unfold List.getD
  cases hk : ts[k]? with
  | none => exact Nat.zero_le _
  | some p => exact h p (List.mem_of_getElem? hk)
theorem takeF_err {N : Nat} {ts : List (Tk × Nat)} {kd : Int} {tx : List UInt8} {s : PS} (h : ∀ p ∈ ts, p.2 ≤ N) (he : ErrG N s.err) : ErrG N (takeF ts kd tx s).2.err ∧ (takeF ts kd tx s).1.2 ≤ N := by
  have hf : ErrG N (failF ts 2 s).err := by
    unfold failF
    split
    · exact he
    · intro x hx; cases hx; exact ⟨.inl rfl, getD_at h _⟩
  rw [takeF_eq]
  have key : ∀ s' : PS, ErrG N s'.err → ErrG N (takeR (ts.getD s.k tok0) s').2.err ∧ (takeR (ts.getD s.k tok0) s').1.2 ≤ N := fun s' h' => by
    unfold takeR
    split
    · exact ⟨h', Nat.zero_le _⟩
    · exact ⟨(fun x hx => by cases hx), getD_at h _⟩
  split
  · exact key _ hf
  · exact key _ he
theorem entryF_err {N : Nat} {ts : List (Tk × Nat)} {s : PS} (h : ∀ p ∈ ts, p.2 ≤ N) (he : ErrG N s.err) : ErrG N (entryF ts s).2.err := by
  have a0 := takeF_err (kd := 1) (tx := [105, 109, 97, 103, 101]) h he
  have a1 := takeF_err (kd := 3) (tx := []) h a0.1
  have a2 := takeF_err (kd := 1) (tx := [97, 116]) h a1.1
  have a3 := takeF_err (kd := 2) (tx := []) h a2.1
  have a4 := takeF_err (kd := 1) (tx := [115, 105, 122, 101]) h a3.1
  have a5 := takeF_err (kd := 2) (tx := []) h a4.1
  have a6 := takeF_err (kd := 1) (tx := [112, 114, 105, 110, 116]) h a5.1
  have a7 := takeF_err (kd := 2) (tx := []) h a6.1
  have a8 := takeF_err (kd := 1) (tx := [98, 121]) h a7.1
  have a9 := takeF_err (kd := 1) (tx := []) h a8.1
  unfold entryF
  simp only
  split
  · exact (takeF_err h a9.1).1
  · unfold nameF
    split
    · exact a9.1
    · intro x hx; cases hx; exact ⟨.inr rfl, a9.2⟩
theorem parseF_err {N : Nat} : ∀ (n : Nat) (ts : List (Tk × Nat)) (s : PS) (out : List En), (∀ p ∈ ts, p.2 ≤ N) → ErrG N s.err → ErrG N (parseF n ts s out).2
  | 0, _, _, _, _, h => h
  | n + 1, ts, s, out, hp, h => by
    rw [parseF]
    split
    · exact parseF_err n ts _ _ hp (entryF_err hp h)
    · exact h
end Go.Proofs.YtgfkjldohilmkaaDoor.Ab
/- What is read is read again: the law. -/
set_option linter.unusedVariables false
set_option linter.unusedSimpArgs false
namespace Go.Proofs.YtgfkjldohilmkaaDoor.Ab
open Go Go.RowKit
set_option maxHeartbeats 4000000
set_option maxRecDepth 100000

theorem eqE (nm : ByteArray) (a s p w : Int) : dEq (.recd [(0, 0, .str), (1, 0, .int), (2, 0, .int), (3, 0, .int), (4, 0, .int)]) (.agg ⟨[.string nm, .int .i64 a, .int .i64 s, .int .u32 p, .int .i64 w]⟩) (.agg ⟨[.string nm, .int .i64 a, .int .i64 s, .int .u32 p, .int .i64 w]⟩) = some true := by
  simp [dEq, dEqs, pickCells]
theorem c_SameE {w0 : World} {m : Mem} {v1 v2 : Value} {xs : List En} {Q : Value → Mem → Prop} (h1 : SlR m 5 v1 (xs.flatMap En.cells) xs.length) (h2 : SlR m 5 v2 (xs.flatMap En.cells) xs.length) (hn : xs.length ≤ 1000000) (hq : Q (.bool true) m) :
    AbC Tryd.prog w0 14 [v1, v2] m Q := by
  refine AbC_fn ok14 (by simp) ?_
  simp -implicitDefEqProofs (disch := first | assumption | (simp only [wnA]; done) | (simp only [wnA]; omega) | omega | fail) [rc14, ro14, wkA, retV, stabOk, dC, ev, fillD, pickCells, putAt, bnd, slD, List.getElem?_cons_zero, List.getElem?_cons_succ, dR.eq_20, Mem.cell, Mem.row, wmA, h1.slen, h2.slen, rc14_3]
  refine LoopW_of (fun k ts m' => ∃ j, j + k = xs.length ∧ m' = m ∧ ts 0 = v1 ∧ ts 1 = v2 ∧ ts 12 = .int .i64 (xs.length : Nat) ∧ ts 13 = .int .i64 (j : Nat)) xs.length ?_ ?_
  · exact ⟨0, by omega, rfl, by simp [frA_at], by simp [frA_at], by simp, by simp⟩
  · rintro k ts m2 K ⟨j, hj, rfl, t0, t1, t12, t13⟩ hK
    simp -implicitDefEqProofs (disch := first | assumption | (simp only [wnA]; done) | (simp only [wnA]; omega) | omega | fail) [rc14_1, wkA, retV, stabOk, dC, ev, fillD, pickCells, putAt, bnd, slD, List.getElem?_cons_zero, List.getElem?_cons_succ, dR.eq_20, Mem.cell, Mem.row, wmA, t12, t13]
    by_cases hjl : j < xs.length
    · have ijl : (j : Int) < (xs.length : Int) := by omega
      have w1 : IntKind.i64.wrap ((j : Int) + 1) = (j : Int) + 1 := w64 (by omega)
      obtain ⟨i1, o1, L1, hv1, hL1, hl1, ht1, hc1⟩ := h1.at hjl
      obtain ⟨i2, o2, L2, hv2, hL2, hl2, ht2, hc2⟩ := h2.at hjl
      rw [flat_at enl xs (List.getElem?_eq_getElem hjl)] at ht1 ht2
      have x1 : sidx 5 v1 (.int .i64 (j : Int)) = some (.pointer (some ⟨i1, o1 + j * 5, none⟩)) := by rw [hv1]; exact sidx_at hjl
      have x2 : sidx 5 v2 (.int .i64 (j : Int)) = some (.pointer (some ⟨i2, o2 + j * 5, none⟩)) := by rw [hv2]; exact sidx_at hjl
      have b1 : o1 + j * 5 + 5 ≤ L1.length := by omega
      have b2 : o2 + j * 5 + 5 ≤ L2.length := by omega
      clear hc1 hc2
      generalize o1 + j * 5 = q1 at *
      generalize o2 + j * 5 = q2 at *
      generalize xs[j] = e at *
      obtain ⟨nm, ea, es, ep, ew⟩ := e
      have ht1 : (L1.drop q1).take 5 = [.string nm, .int .i64 ea, .int .i64 es, .int .u32 ep, .int .i64 ew] := ht1
      have ht2 : (L2.drop q2).take 5 = [.string nm, .int .i64 ea, .int .i64 es, .int .u32 ep, .int .i64 ew] := ht2
      simp -implicitDefEqProofs (disch := first | assumption | (simp only [wnA]; done) | (simp only [wnA]; omega) | omega | fail) [wkA, retV, stabOk, dC, ev, fillD, pickCells, putAt, bnd, slD, List.getElem?_cons_zero, List.getElem?_cons_succ, dR.eq_20, Mem.cell, Mem.row, wmA, hjl, ijl, rc14_0, t0, t1, t13, x1, x2, hL1, hL2, ht1, ht2, b1, b2, w1, eqE]
      exact hK (k - 1) _ m2 (by omega) ⟨j + 1, by omega, rfl, by simp [t0], by simp [t1], by simp [t12], by simp⟩
    · have ijl : ¬ (j : Int) < (xs.length : Int) := by omega
      simp -implicitDefEqProofs (disch := first | assumption | (simp only [wnA]; done) | (simp only [wnA]; omega) | omega | fail) [wkA, retV, stabOk, dC, ev, fillD, pickCells, putAt, bnd, slD, List.getElem?_cons_zero, List.getElem?_cons_succ, dR.eq_20, Mem.cell, Mem.row, wmA, hjl, ijl, rc14_2]
      exact hq

theorem nm_sum : ∀ (es : List En) (N : Nat), (∀ e ∈ es, e.nm.size ≤ N) → totE es ≤ es.length * (2 * N + 130)
  | [], _, _ => by simp [totE]
  | e :: es, N, h => by
    have h1 := h e (by simp)
    have h2 := nm_sum es N fun x hx => h x (by simp [hx])
    have h3 : totE (e :: es) = 2 * e.nm.size + 130 + totE es := by simp [totE]
    rw [h3, List.length_cons, Nat.add_mul]
    omega
theorem EnG.ok {e : En} (h : EnG e) (hn : e.nm.size ≤ 1048576) : e.ok := by
  obtain ⟨-, h1, h2, h3, h4⟩ := h
  refine ⟨hn, ?_, ?_, h3, ?_⟩
  · omega
  · omega
  · omega

theorem l_Again {w0 : World} {m : Mem} {S : ByteArray} (hp : Part L0 m) (ht : Ten w0) (hE : ErrV w0) (hT : ErrT w0) :
    AbC Tryd.prog w0 7 [.string S] m fun v _ => v = .bool true := by
  refine AbC_fn ok7 (by simp) ?_
  have hl : S.data.toList.length = S.size := by simp
  simp -implicitDefEqProofs (disch := first | assumption | (simp only [wnA]; done) | (simp only [wnA]; omega) | omega | fail) [rc7, ro7, wkA, retV, stabOk, dC, ev, fillD, pickCells, putAt, bnd, slD, List.getElem?_cons_zero, List.getElem?_cons_succ, dR.eq_20, Mem.cell, Mem.row, wmA]
  refine c_awake hp ?_
  by_cases hs : 3000 < S.size
  · have is : (3000 : Int) < (S.size : Int) := by omega
    simp -implicitDefEqProofs (disch := first | assumption | (simp only [wnA]; done) | (simp only [wnA]; omega) | omega | fail) [rc7_2, wkA, retV, stabOk, dC, ev, fillD, pickCells, putAt, bnd, slD, List.getElem?_cons_zero, List.getElem?_cons_succ, dR.eq_20, Mem.cell, Mem.row, wmA, gtT is]
  · have is : (S.size : Int) ≤ 3000 := by omega
    simp -implicitDefEqProofs (disch := first | assumption | (simp only [wnA]; done) | (simp only [wnA]; omega) | omega | fail) [rc7_2, wkA, retV, stabOk, dC, ev, fillD, pickCells, putAt, bnd, slD, List.getElem?_cons_zero, List.getElem?_cons_succ, dR.eq_20, Mem.cell, Mem.row, wmA, gtF is, rc7_1]
    have bad : ∀ (no a : Nat), no = 1 ∨ no = 2 ∨ no = 3 → a ≤ S.size → True := fun _ _ _ _ => trivial
    refine c_Parse hp ht hE (fun h => by omega) (fun _ m1 a o1 hc => ?_) (fun _ m1 us e o1 hc hpe => ?_) fun _ m1 us ob o1 hc hul hpe s1 hob => ?_
    · have ha := (cut_places S.data.toList S.data.toList.length 0 (by omega) (by omega)).1 a hc
      rw [hl] at ha
      have hf : faultV 1 a = .iface 84 (.agg ⟨[.int .i64 ((1 : Nat) : Int), .int .i64 (a : Int)]⟩) := rfl
      simp -implicitDefEqProofs (disch := first | assumption | (simp only [wnA]; done) | (simp only [wnA]; omega) | omega | fail) [wkA, retV, stabOk, dC, ev, fillD, pickCells, putAt, bnd, slD, List.getElem?_cons_zero, List.getElem?_cons_succ, dR.eq_20, Mem.cell, Mem.row, wmA, hf]
      refine c_Number (n := 1) (a := a) hT fun m2 o2 => ?_
      simp -implicitDefEqProofs (disch := first | assumption | (simp only [wnA]; done) | (simp only [wnA]; omega) | omega | fail) [wkA, retV, stabOk, dC, ev, fillD, pickCells, putAt, bnd, slD, List.getElem?_cons_zero, List.getElem?_cons_succ, dR.eq_20, Mem.cell, Mem.row, wmA]
      refine c_Place (n := 1) (a := a) hT fun m3 o3 => ?_
      simp -implicitDefEqProofs (disch := first | assumption | (simp only [wnA]; done) | (simp only [wnA]; omega) | omega | fail) [wkA, retV, stabOk, dC, ev, fillD, pickCells, putAt, bnd, slD, List.getElem?_cons_zero, List.getElem?_cons_succ, dR.eq_20, Mem.cell, Mem.row, wmA]
      refine c_Place (n := 1) (a := a) hT fun m4 o4 => ?_
      simp -implicitDefEqProofs (disch := first | assumption | (simp only [wnA]; done) | (simp only [wnA]; omega) | omega | fail) [wkA, retV, stabOk, dC, ev, fillD, pickCells, putAt, bnd, slD, List.getElem?_cons_zero, List.getElem?_cons_succ, dR.eq_20, Mem.cell, Mem.row, wmA, ha]
    · have ha : e.2 ≤ S.size := by
        have hpl := ((cut_places S.data.toList S.data.toList.length 0 (by omega) (by omega)).2 us hc).1 (-1) (by omega)
        have := parseF_err us.length us ⟨0, none⟩ [] (N := S.size) (fun p hp => by rw [← hl]; exact PlL_at hpl p hp) (fun x hx => by cases hx)
        exact (this e hpe).2
      have hno : e.1 = 2 ∨ e.1 = 3 := by
        have hpl := ((cut_places S.data.toList S.data.toList.length 0 (by omega) (by omega)).2 us hc).1 (-1) (by omega)
        have := parseF_err us.length us ⟨0, none⟩ [] (N := S.size) (fun p hp => by rw [← hl]; exact PlL_at hpl p hp) (fun x hx => by cases hx)
        exact (this e hpe).1
      obtain ⟨no, a⟩ := e
      have ha : a ≤ S.size := ha
      have hno : no = 2 ∨ no = 3 := hno
      rcases hno with rfl | rfl
      · have hf : faultV 2 a = .iface 84 (.agg ⟨[.int .i64 ((2 : Nat) : Int), .int .i64 (a : Int)]⟩) := rfl
        simp -implicitDefEqProofs (disch := first | assumption | (simp only [wnA]; done) | (simp only [wnA]; omega) | omega | fail) [wkA, retV, stabOk, dC, ev, fillD, pickCells, putAt, bnd, slD, List.getElem?_cons_zero, List.getElem?_cons_succ, dR.eq_20, Mem.cell, Mem.row, wmA, hf]
        refine c_Number (n := 2) (a := a) hT fun m2 o2 => ?_
        simp -implicitDefEqProofs (disch := first | assumption | (simp only [wnA]; done) | (simp only [wnA]; omega) | omega | fail) [wkA, retV, stabOk, dC, ev, fillD, pickCells, putAt, bnd, slD, List.getElem?_cons_zero, List.getElem?_cons_succ, dR.eq_20, Mem.cell, Mem.row, wmA]
        refine c_Place (n := 2) (a := a) hT fun m3 o3 => ?_
        simp -implicitDefEqProofs (disch := first | assumption | (simp only [wnA]; done) | (simp only [wnA]; omega) | omega | fail) [wkA, retV, stabOk, dC, ev, fillD, pickCells, putAt, bnd, slD, List.getElem?_cons_zero, List.getElem?_cons_succ, dR.eq_20, Mem.cell, Mem.row, wmA]
        refine c_Place (n := 2) (a := a) hT fun m4 o4 => ?_
        simp -implicitDefEqProofs (disch := first | assumption | (simp only [wnA]; done) | (simp only [wnA]; omega) | omega | fail) [wkA, retV, stabOk, dC, ev, fillD, pickCells, putAt, bnd, slD, List.getElem?_cons_zero, List.getElem?_cons_succ, dR.eq_20, Mem.cell, Mem.row, wmA, ha]
      · have hf : faultV 3 a = .iface 84 (.agg ⟨[.int .i64 ((3 : Nat) : Int), .int .i64 (a : Int)]⟩) := rfl
        simp -implicitDefEqProofs (disch := first | assumption | (simp only [wnA]; done) | (simp only [wnA]; omega) | omega | fail) [wkA, retV, stabOk, dC, ev, fillD, pickCells, putAt, bnd, slD, List.getElem?_cons_zero, List.getElem?_cons_succ, dR.eq_20, Mem.cell, Mem.row, wmA, hf]
        refine c_Number (n := 3) (a := a) hT fun m2 o2 => ?_
        simp -implicitDefEqProofs (disch := first | assumption | (simp only [wnA]; done) | (simp only [wnA]; omega) | omega | fail) [wkA, retV, stabOk, dC, ev, fillD, pickCells, putAt, bnd, slD, List.getElem?_cons_zero, List.getElem?_cons_succ, dR.eq_20, Mem.cell, Mem.row, wmA]
        refine c_Place (n := 3) (a := a) hT fun m3 o3 => ?_
        simp -implicitDefEqProofs (disch := first | assumption | (simp only [wnA]; done) | (simp only [wnA]; omega) | omega | fail) [wkA, retV, stabOk, dC, ev, fillD, pickCells, putAt, bnd, slD, List.getElem?_cons_zero, List.getElem?_cons_succ, dR.eq_20, Mem.cell, Mem.row, wmA]
        refine c_Place (n := 3) (a := a) hT fun m4 o4 => ?_
        simp -implicitDefEqProofs (disch := first | assumption | (simp only [wnA]; done) | (simp only [wnA]; omega) | omega | fail) [wkA, retV, stabOk, dC, ev, fillD, pickCells, putAt, bnd, slD, List.getElem?_cons_zero, List.getElem?_cons_succ, dR.eq_20, Mem.cell, Mem.row, wmA, ha]
    · have hgood := good_out (N := S.size) us.length us ⟨0, none⟩ [] (cutF_ok S.size _ 0 _ us (by omega) hc) (fun e he => by cases he) hpe
      have hlen : (parseL us).1.length ≤ us.length := by
        have := out_len us.length us ⟨0, none⟩ []
        rw [List.length_nil, Nat.zero_add] at this
        exact this
      have hgood : ∀ e ∈ (parseL us).1, EnG e ∧ e.nm.size ≤ S.size := hgood
      have hes : (parseL us).1.length ≤ 3001 := by omega
      generalize (parseL us).1 = es at *
      have htot : totE es ≤ 1099511627776 := by
        have h1 := nm_sum es S.size fun e he => (hgood e he).2
        have h2 : es.length * (2 * S.size + 130) ≤ 3001 * (2 * 3000 + 130) := Nat.mul_le_mul hes (by omega)
        omega
      simp -implicitDefEqProofs (disch := first | assumption | (simp only [wnA]; done) | (simp only [wnA]; omega) | omega | fail) [wkA, retV, stabOk, dC, ev, fillD, pickCells, putAt, bnd, slD, List.getElem?_cons_zero, List.getElem?_cons_succ, dR.eq_20, Mem.cell, Mem.row, wmA, rc7_0]
      refine c_MText (o1.part hp) ht s1.read (fun b hb => ?_) (fun e he => (hgood e he).1.ok (by have := (hgood e he).2; omega)) htot (by omega) fun m2 o2 => ?_
      · rw [blk_slV] at hb
        subst hb
        exact s1.lt
      obtain ⟨us2, hc2, hu2⟩ := cut_text es fun e he => (hgood e he).1
      have hp2 := parseL_back (fun e he => (hgood e he).1) hu2
      obtain ⟨T, hT2⟩ : ∃ T : ByteArray, (⟨⟨es.flatMap lineL⟩⟩ : ByteArray) = T := ⟨_, rfl⟩
      have hT3 : T.data.toList = es.flatMap lineL := by subst hT2; rfl
      simp -implicitDefEqProofs (disch := first | assumption | (simp only [wnA]; done) | (simp only [wnA]; omega) | omega | fail) [wkA, retV, stabOk, dC, ev, fillD, pickCells, putAt, bnd, slD, List.getElem?_cons_zero, List.getElem?_cons_succ, dR.eq_20, Mem.cell, Mem.row, wmA, hT2]
      rw [← hT3] at hc2
      refine c_Parse ((o1.trans o2).part hp) ht hE (fun h m3 o3 => ?_) (fun _ m3 a o3 hc3 => by rw [hc2] at hc3; cases hc3) (fun _ m3 us3 e o3 hc3 hpe3 => by rw [hc2] at hc3; cases hc3; rw [hp2] at hpe3; cases hpe3) fun h m3 us3 ob3 o3 hc3 _ hpe3 s3 hob3 => ?_
      · have i4 : (4096 : Int) < (T.size : Int) := by omega
        simp -implicitDefEqProofs (disch := first | assumption | (simp only [wnA]; done) | (simp only [wnA]; omega) | omega | fail) [wkA, retV, stabOk, dC, ev, fillD, pickCells, putAt, bnd, slD, List.getElem?_cons_zero, List.getElem?_cons_succ, dR.eq_20, Mem.cell, Mem.row, wmA, gtT i4]
      · have i4 : (T.size : Int) ≤ 4096 := by omega
        rw [hc2] at hc3
        cases hc3
        rw [hp2] at s3
        simp only [hp2]
        simp -implicitDefEqProofs (disch := first | assumption | (simp only [wnA]; done) | (simp only [wnA]; omega) | omega | fail) [wkA, retV, stabOk, dC, ev, fillD, pickCells, putAt, bnd, slD, List.getElem?_cons_zero, List.getElem?_cons_succ, dR.eq_20, Mem.cell, Mem.row, wmA, gtF i4]
        have s13 : SlO m3 36 5 ob (es.flatMap En.cells) es.length := s1.keep (by have := o2.1; have := o3.1; omega) fun b hb => by
          subst hb
          rw [o3.2 _ (by have := s1.lt; have := o2.1; omega), o2.2 _ s1.lt]
        refine c_SameE (xs := es) s3.read s13.read (by omega) ?_
        simp -implicitDefEqProofs (disch := first | assumption | (simp only [wnA]; done) | (simp only [wnA]; omega) | omega | fail) [wkA, retV, stabOk, dC, ev, fillD, pickCells, putAt, bnd, slD, List.getElem?_cons_zero, List.getElem?_cons_succ, dR.eq_20, Mem.cell, Mem.row, wmA]
end Go.Proofs.YtgfkjldohilmkaaDoor.Ab
