/- The check that one order serves every order, as a computation. -/
import Derived.Test.YtgfkjldohilmkaaDoorAb14
set_option linter.unusedVariables false
set_option linter.unusedSimpArgs false
namespace Go.Proofs.YtgfkjldohilmkaaDoor.Ab
open Go Go.RowKit

def ancM (M : List Nat) (i j : Nat) : Bool := Nat.testBit (M.getD j 0) i

def maskOf (M : List Nat) (j : Nat) : List Edge → Nat
  | [] => 0
  | e :: es => if Region.binds .any e && decide (e.on < j) then (1 <<< e.on) ||| (M.getD e.on 0 ||| maskOf M j es) else maskOf M j es

def maskOk (M : List Nat) : Nat → List Oper → Bool
  | _, [] => true
  | j, o :: os => M.getD j 0 == maskOf M j o.after.toList && maskOk M (j + 1) os

theorem maskOf_bit {M : List Nat} {j i : Nat} : ∀ (es : List Edge), Nat.testBit (maskOf M j es) i = true → ∃ e ∈ es, Region.binds .any e = true ∧ e.on < j ∧ (e.on = i ∨ ancM M i e.on = true)
  | [], h => by simp [maskOf] at h
  | e :: es, h => by
    unfold maskOf at h
    split at h
    · rename_i hb
      simp only [Bool.and_eq_true, decide_eq_true_eq] at hb
      simp only [Nat.testBit_or, Bool.or_eq_true] at h
      rcases h with h | h | h
      · rw [Nat.testBit_shiftLeft] at h
        simp only [Bool.and_eq_true, decide_eq_true_eq] at h
        have : i - e.on = 0 := by
          have := Nat.testBit_one_eq_true_iff_self_eq_zero.1 h.2
          exact this
        exact ⟨e, by simp, hb.1, hb.2, .inl (by omega)⟩
      · exact ⟨e, by simp, hb.1, hb.2, .inr h⟩
      · obtain ⟨e', h1, h2⟩ := maskOf_bit es h
        exact ⟨e', by simp [h1], h2⟩
    · obtain ⟨e', h1, h2⟩ := maskOf_bit es h
      exact ⟨e', by simp [h1], h2⟩

theorem maskOk_at {M : List Nat} : ∀ (l : List Oper) (k : Nat), maskOk M k l = true → ∀ (j : Nat) (o : Oper), l[j]? = some o → M.getD (k + j) 0 = maskOf M (k + j) o.after.toList
  | [], k, h, j, o, hj => by simp at hj
  | x :: l, k, h, j, o, hj => by
    simp only [maskOk, Bool.and_eq_true, beq_iff_eq] at h
    cases j with
    | zero => simp at hj; subst hj; exact h.1
    | succ j =>
      have := maskOk_at l (k + 1) h.2 j o (by simpa using hj)
      rwa [show k + 1 + j = k + (j + 1) from by omega] at this

theorem ancM_anc {ops : Array Oper} {M : List Nat} (hl : M.length = ops.size) (hM : maskOk M 0 ops.toList = true) : ∀ (j i : Nat), ancM M i j = true → Anc ops i j := by
  intro j
  induction j using Nat.strongRecOn with
  | _ j ih =>
    intro i h
    have hj : j < ops.size := by
      rcases Nat.lt_or_ge j ops.size with h' | h'
      · exact h'
      · unfold ancM at h
        rw [List.getD_eq_getElem?_getD, List.getElem?_eq_none (by omega)] at h
        simp at h
    have ho : ops[j]? = some ops[j] := by simp [hj]
    have he := maskOk_at ops.toList 0 hM j ops[j] (by simp [hj])
    rw [Nat.zero_add] at he
    unfold ancM at h
    rw [he] at h
    obtain ⟨e, h1, h2, h3, h4⟩ := maskOf_bit _ h
    rcases h4 with h4 | h4
    · subst h4; exact .one j _ e ho (by simpa using h1) h2
    · exact .step i j _ e ho (by simpa using h1) h2 (ih e.on h3 i h4)

def ordB (ops : Array Oper) : List Nat → List Nat → Bool
  | _, [] => true
  | pre, i :: r => (match ops[i]? with
    | some o => o.after.toList.all fun e => !(Region.binds .any e) || pre.contains e.on
    | none => true) && ordB ops (i :: pre) r
def chB (M : List Nat) (sp : Nat → Sp) : List Nat → Bool
  | [] => true
  | i :: r => (!(isCh (sp i)) || r.all fun j => ancM M i j) && chB M sp r
def seesO (d : Option Nat) (s : Sp) : Bool := match d with
  | some d => seesD d s
  | none => false
def pairB (M : List Nat) (ops : Array Oper) (sp : Nat → Sp) (i j : Nat) (oi oj : Oper) : Bool :=
  i == j || ((ancM M i j || ancM M j i || (oi.apart ops oj && !(seesO oi.dst (sp j)))) &&
    (isCh (sp i) || match oi.dst with
      | some d => oj.dst != some d && (ancM M i j || (!((oj.looksAt ops).contains d) && !(seesD d (sp j))))
      | none => true))
def oneB (ops : Array Oper) (sp : Nat → Sp) (i : Nat) (o : Oper) : Bool :=
  (isCh (sp i) || match o.dst with
    | some d => !(seesD d (sp i)) && !((o.looksAt ops).contains d)
    | none => false) && (match o.op with | .select _ _ => false | _ => true)
def okSched (ops : Array Oper) (M : List Nat) (sp : Nat → Sp) (sch : List Nat) : Bool :=
  M.length == ops.size && maskOk M 0 ops.toList && decide sch.Nodup && (sch.all fun i => decide (i < ops.size)) && ((List.range ops.size).all fun i => sch.contains i) &&
  ordB ops [] sch && chB M sp sch &&
  ((List.range ops.size).all fun i => match ops[i]? with
    | some oi => oneB ops sp i oi && ((List.range ops.size).all fun j => match ops[j]? with
      | some oj => pairB M ops sp i j oi oj
      | none => true)
    | none => true)

theorem ordB_snd {ops : Array Oper} : ∀ (l p : List Nat), ordB ops p l = true → ∀ pre i post o e, l = pre ++ i :: post → ops[i]? = some o → e ∈ o.after → Region.binds .any e = true → e.on ∈ pre ∨ e.on ∈ p
  | [], p, _, pre, i, post, o, e, hl, _, _, _ => by simp at hl
  | x :: l, p, h, pre, i, post, o, e, hl, ho, he, hb => by
    simp only [ordB, Bool.and_eq_true] at h
    cases pre with
    | nil =>
      simp at hl
      obtain ⟨rfl, rfl⟩ := hl
      have h1 := h.1
      rw [ho] at h1
      simp only [List.all_eq_true] at h1
      have := h1 e (by simpa using he)
      simp [hb] at this
      exact .inr this
    | cons y pre =>
      simp at hl
      obtain ⟨rfl, rfl⟩ := hl
      rcases ordB_snd _ _ h.2 pre i post o e rfl ho he hb with h' | h'
      · exact .inl (by simp [h'])
      · rcases List.mem_cons.1 h' with rfl | h'
        · exact .inl (by simp)
        · exact .inr h'

theorem chB_snd {M : List Nat} {sp : Nat → Sp} : ∀ (l : List Nat), chB M sp l = true → ∀ pre i post j, l = pre ++ i :: post → isCh (sp i) = true → j ∈ post → ancM M i j = true
  | [], _, pre, i, post, j, hl, _, _ => by simp at hl
  | x :: l, h, pre, i, post, j, hl, hc, hj => by
    simp only [chB, Bool.and_eq_true] at h
    cases pre with
    | nil =>
      simp at hl
      obtain ⟨rfl, rfl⟩ := hl
      have h1 := h.1
      simp only [hc, Bool.not_true, Bool.false_or, List.all_eq_true] at h1
      exact h1 j hj
    | cons y pre =>
      simp at hl
      obtain ⟨rfl, rfl⟩ := hl
      exact chB_snd _ h.2 pre i post j rfl hc hj

theorem mapM_at {α β : Type} {f : α → Option β} : ∀ {l : List α} {r : List β}, l.mapM f = some r → ∀ (i : Nat) (x : α), l[i]? = some x → ∃ y, r[i]? = some y ∧ f x = some y
  | [], r, h, i, x, hx => by simp at hx
  | a :: l, r, h, i, x, hx => by
    simp only [List.mapM_cons, Option.bind_eq_bind, Option.pure_def] at h
    cases hf : f a with
    | none => simp [hf] at h
    | some b =>
      cases hl : l.mapM f with
      | none => simp [hf, hl] at h
      | some r' =>
        simp [hf, hl] at h
        subst h
        cases i with
        | zero => simp at hx; subst hx; exact ⟨b, by simp, hf⟩
        | succ i => simpa using mapM_at hl i x (by simpa using hx)

def Sp.z : Sp := ⟨none, none, .a (.const undef), []⟩

theorem okSched_snd {P : Program} {N : Nat} {ops : Array Oper} {M sch : List Nat} {spl : List Sp} (hspl : ops.toList.mapM (resS P N ops) = some spl) (h : okSched ops M (fun i => spl.getD i Sp.z) sch = true) : SchOk P N ops (ancM M) (fun i => spl.getD i Sp.z) sch := by
  simp only [okSched, Bool.and_eq_true, beq_iff_eq, decide_eq_true_eq, List.all_eq_true, List.mem_range] at h
  obtain ⟨⟨⟨⟨⟨⟨⟨h1, h2⟩, h3⟩, h4⟩, h5⟩, h6⟩, h7⟩, h8⟩ := h
  have hA := fun i j => ancM_anc h1 h2 j i
  have hpair : ∀ i j oi oj, ops[i]? = some oi → ops[j]? = some oj → pairB M ops (fun i => spl.getD i Sp.z) i j oi oj = true := by
    intro i j oi oj hi hj
    have := h8 i (Array.getElem?_eq_some_iff.1 hi).1
    simp only [hi, Bool.and_eq_true, List.all_eq_true, List.mem_range] at this
    have := this.2 j (Array.getElem?_eq_some_iff.1 hj).1
    simpa only [hj] using this
  have hone : ∀ i oi, ops[i]? = some oi → oneB ops (fun i => spl.getD i Sp.z) i oi = true := by
    intro i oi hi
    have := h8 i (Array.getElem?_eq_some_iff.1 hi).1
    simp only [hi, Bool.and_eq_true] at this
    exact this.1
  have hres : ∀ i o, ops[i]? = some o → ∃ g k, resG ops N o = some g ∧ resK P N o = some k ∧ (spl.getD i Sp.z).d = o.dst ∧ (spl.getD i Sp.z).g = g ∧ (spl.getD i Sp.z).k = k ∧ (∀ d, o.dst = some d → d < N) := by
    intro i o hi
    obtain ⟨y, hy, hf⟩ := mapM_at hspl i o (by simpa using hi)
    have e1 : spl.getD i Sp.z = y := by rw [List.getD_eq_getElem?_getD, hy]; rfl
    rw [e1]
    unfold resS at hf
    split at hf
    case isFalse => cases hf
    rename_i hd
    split at hf
    case h_2 => cases hf
    rename_i g k hg hk
    simp at hf; subst hf
    refine ⟨g, k, hg, hk, rfl, rfl, rfl, fun d hd' => ?_⟩
    rw [hd'] at hd
    simpa using hd
  refine ⟨hA, h3, fun i => ⟨fun hi => h4 i hi, fun hi => by simpa using h5 i hi⟩, hres, ?_, ?_, ?_, ?_, ?_, ?_, ?_, ?_⟩
  · intro pre i post o e hs ho he hb
    rcases ordB_snd _ _ h6 pre i post o e hs ho he hb with h | h
    · exact h
    · simp at h
  · exact fun pre i post j hs hc hj => hA _ _ (chB_snd _ h7 pre i post j hs hc hj)
  · intro i j oi oj hij n1 n2 hi hj
    have hp := hpair i j oi oj hi hj
    have e1 : ancM M i j = false := by cases h : ancM M i j; rfl; exact (n1 (hA _ _ h)).elim
    have e2 : ancM M j i = false := by cases h : ancM M j i; rfl; exact (n2 (hA _ _ h)).elim
    have e3 : (i == j) = false := by simpa using hij
    simp only [pairB, e1, e2, e3, Bool.false_or, Bool.and_eq_true, Bool.not_eq_true'] at hp
    refine ⟨hp.1.1, fun d hd => ?_⟩
    have := hp.1.2
    rwa [hd] at this
  · intro i j oi oj d hc hij hi hj hd
    have hp := hpair i j oi oj hi hj
    have e3 : (i == j) = false := by simpa using hij
    simp only [pairB, e3, hc, hd, Bool.false_or, Bool.and_eq_true, Bool.or_eq_true, Bool.not_eq_true', bne_iff_ne] at hp
    obtain ⟨_, q1, q2⟩ := hp
    refine ⟨q1, fun hl => ?_, fun hs => ?_⟩
    · rcases q2 with q2 | q2
      · exact hA _ _ q2
      · have := q2.1; simp [hl] at this
    · rcases q2 with q2 | q2
      · exact hA _ _ q2
      · have := q2.2; rw [hs] at this; cases this
  · intro i hi hc
    have ho : ops[i]? = some ops[i] := by simp [hi]
    have hp := hone i _ ho
    obtain ⟨_, _, _, _, e1, _⟩ := hres i _ ho
    simp only [oneB, hc, Bool.false_or, Bool.and_eq_true] at hp
    rw [e1]
    intro hn
    rw [hn] at hp
    simp at hp
  · intro i d hc hd
    have hi : i < ops.size := by
      rcases Nat.lt_or_ge i ops.size with h' | h'
      · exact h'
      · exfalso
        have hlen : spl.length = ops.size := by
          have key : ∀ {α β : Type} {f : α → Option β} (l : List α) (r : List β), l.mapM f = some r → r.length = l.length := by
            intro α β f l
            induction l with
            | nil => intro r h; simp at h; subst h; rfl
            | cons a l ih =>
              intro r h
              simp only [List.mapM_cons, Option.bind_eq_bind, Option.pure_def] at h
              cases hf : f a with
              | none => simp [hf] at h
              | some b =>
                cases hl : l.mapM f with
                | none => simp [hf, hl] at h
                | some r' =>
                  simp [hf, hl] at h
                  subst h
                  simp [ih _ hl]
          simpa using key _ _ hspl
        have e1 : spl.getD i Sp.z = Sp.z := by rw [List.getD_eq_getElem?_getD, List.getElem?_eq_none (by omega)]; rfl
        rw [e1] at hc
        cases hc
    have ho : ops[i]? = some ops[i] := by simp [hi]
    have hp := hone i _ ho
    obtain ⟨_, _, _, _, e1, _⟩ := hres i _ ho
    rw [e1] at hd
    simp only [oneB, hc, hd, Bool.false_or, Bool.and_eq_true, Bool.not_eq_true'] at hp
    exact hp.1.1
  · intro i o d hc ho hd
    have hp := hone i _ ho
    simp only [oneB, hc, hd, Bool.false_or, Bool.and_eq_true, Bool.not_eq_true'] at hp
    intro hm
    have := hp.1.2
    simp [hm] at this
  · intro j o cs b ho he
    have hp := hone j _ ho
    simp [oneB, he] at hp

end Go.Proofs.YtgfkjldohilmkaaDoor.Ab
