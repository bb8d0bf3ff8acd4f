/- The law HostOut, as its statement says it: for every input; the listed variables hold what the program's text lays. -/
import Derived.Test.YtccjlggpiliilaaGreatDoorKHo5
import Derived.Test.YtccjlggpiliilaaGreatDoorCards
import Derived.Test.YtccjlggpiliilaaGreatDoorTie
import Derived.WalkKit
import Derived.ProofKit
import Derived.OpenShut
import Derived.JoinedCond
import Derived.ChangeOld
import Derived.Deep.DeepHandedRow
import Derived.Deep.DeepWitnessRowRef
set_option linter.unusedVariables false
set_option linter.unusedSimpArgs false
namespace Go.Proofs.YtccjlggpiliilaaGreatDoor.Ab
open Go Go.RowKit
set_option maxHeartbeats 4000000
set_option maxRecDepth 100000
theorem OfC.weak {w0 : World} {ps : List (List UInt8)} {G G' : Prop} {P P' : List (Tab × List Bool) → Prop} (h : OfC w0 ps G P) (hG : G' → G) (hG2 : G → G') (hP : ∀ c,P c → P' c) : OfC w0 ps G' P' := fun m ob Q hp hs hok herr =>
  h m ob Q hp hs (fun m' w o hl hPw ho hW n1 n2 => hok m' w o hl (hP _ hPw) ho hW n1 n2) fun hn m' e o hE => herr (fun h' => hn (hG h')) m' e o hE
def posJ (s : PlS) : Prop := 0 ≤ s.at_
theorem safe_of {G : List (List UInt8) → Prop} {P : List (List UInt8) → List (Tab × List Bool) → Prop} {l : List DV} (hl : l.length ≤ 1000) (hc : chkOk l) : SafeJ G P l posJ := by
  refine ⟨fun s h => h,fun s x s' o hs h0 hw hx hO => ?_⟩
  have hs : 0 ≤ s.at_ := hs
  have hlt : s.at_.toNat < l.length := by
    rcases Nat.lt_or_ge s.at_.toNat l.length with h' | h'
    · exact h'
    · rw [List.getElem?_eq_none h'] at hx; cases hx
  have hck := hc.2 _ _ hx
  unfold posJ
  cases hO with
  | send h => show 0 ≤ IntKind.i64.wrap (s.at_ + 1); rw [w64 (by omega)]; omega
  | exp w h1 h2 h3 h4 => exact hs
  | expN h1 h2 => exact hs
  | goto h => exact hck.2.1 (.inr (.inl h))
  | tryA h1 h2 => exact hck.2.1 (.inr (.inr h1))
  | tryB h1 h2 => show 0 ≤ IntKind.i64.wrap (s.at_ + 1); rw [w64 (by omega)]; omega
  | done h => exact hs
  | fail h1 h2 h3 h4 h5 => exact hs
def lW (av : Value) : List DV := [(⟨[97],0,[13],[],0,[],0⟩,.slice none 0 0),(⟨[],1,[],[⟨[61,62,32],[98]⟩],8,[99],0⟩,av),(⟨[99],3,[],[],5,[97],0⟩,.slice none 0 0),(⟨[],5,[],[],0,[],0⟩,.slice none 0 0),(⟨[98],4,[],[],0,[],0⟩,.slice none 0 0)]
theorem lW_find (av : Value) (t : List UInt8) : findN t (lW av) 0 = if [97] = t ∧ t ≠ [] then 0 else if [] = t ∧ t ≠ [] then 1 else if [99] = t ∧ t ≠ [] then 2 else if [] = t ∧ t ≠ [] then 3 else if [98] = t ∧ t ≠ [] then 4 else -1 := by simp [lW,findN]
theorem lW_chk (av : Value) : chkOk (lW av) := by
  refine ⟨⟨by simp [lW],by simp [lW]⟩,fun j x hx => ?_⟩
  have hf := lW_find av
  rcases (show j = 0 ∨ j = 1 ∨ j = 2 ∨ j = 3 ∨ j = 4 ∨ 5 ≤ j by omega) with rfl | rfl | rfl | rfl | rfl | h5
  · simp only [lW,gZ0,Option.some.injEq] at hx; subst hx
    exact ⟨fun _ => by rw [hf]; simp,fun h => by simp at h,fun h => by simp at h⟩
  · simp only [lW,gZ0,gZ1,Option.some.injEq] at hx; subst hx
    refine ⟨fun h => absurd rfl h,fun h => by rw [hf]; simp,fun h a ha => ?_⟩
    rw [List.mem_singleton] at ha
    subst ha
    rw [hf]; simp
  · simp only [lW,gZ0,gZ1,Option.some.injEq] at hx; subst hx
    exact ⟨fun _ => by rw [hf]; simp,fun h => by rw [hf]; simp,fun h => by simp at h⟩
  · simp only [lW,gZ0,gZ1,Option.some.injEq] at hx; subst hx
    exact ⟨fun h => absurd rfl h,fun h => by simp at h,fun h => by simp at h⟩
  · simp only [lW,gZ0,gZ1,Option.some.injEq] at hx; subst hx
    exact ⟨fun _ => by rw [hf]; simp,fun h => by simp at h,fun h => by simp at h⟩
  · rw [List.getElem?_eq_none (by simp [lW]; omega)] at hx; cases hx
abbrev gW (ps : List (List UInt8)) : Prop := True
def pW (ps : List (List UInt8)) (c : List (Tab × List Bool)) : Prop := ps = [[61,62,32]] → c = [(T_p,[])]
theorem lW_ok {w0 : World} (av : Value) : StepsOk w0 gW pW (lW av) := by
  refine ⟨by simp [lW],fun x hx => ?_,fun x hx h1 => ?_⟩
  · simp only [lW,List.mem_cons,List.not_mem_nil,or_false] at hx
    rcases hx with rfl | rfl | rfl | rfl | rfl <;> simp
  · simp only [lW,List.mem_cons,List.not_mem_nil,or_false] at hx
    rcases hx with rfl | rfl | rfl | rfl | rfl
    · simp at h1
    · exact of_p.weak (fun h => h) (fun h => h) fun c hc _ => hc
    · simp at h1
    · simp at h1
    · simp at h1
inductive Wk
  | run (left c : Nat) (a : List Bool)
  | well
  | ill
def wkTick : Wk → Wk × List UInt8
  | .run left c a => if 1 < left then (.run (left - 1) c a,[]) else if c < 5 then (.run 8 (c + 1) [],[13]) else (.ill,[])
  | x => (x,[])
def wkPut : Wk → UInt8 → Wk
  | .run left c a,b => if endsB T_p (stepB T_p a b true) = true then .well else .run left c (stepB T_p a b true)
  | x,_ => x
def Wk.st : Wk → Int
  | .run _ _ _ => 0
  | .well => 1
  | .ill => 2
structure Wt (s : PlS) (left c : Nat) (a : List Bool) : Prop where
  at_ : s.at_ = 1
  st : s.st = 0
  wat : ∃ w,s.wat = some w ∧ w.over = false ∧ w.ws.map WaE.core = [(T_p,a)]
  left : s.left = (left : Int)
  f : s.f 2 = (c : Int)
  tr : s.tr = []
def RelW (s : PlS) : Wk → Prop
  | .run left c a => Wt s left c a ∧ 1 ≤ left ∧ left ≤ 8 ∧ c ≤ 5
  | .well => s.st = 1
  | .ill => s.st = 2
theorem RelW.st {s : PlS} {w : Wk} (h : RelW s w) : s.st = w.st := by
  cases w with
  | run left c a => exact h.1.st
  | well => exact h
  | ill => exact h
theorem run_1 {av : Value} {n : Nat} {s s' : PlS} {out out' : List UInt8} (hn : n < 256) (h0 : s.st = 0) (h1 : s.wat = none) (h2 : s.at_ = 1) (ht : s.tr = []) {c : Nat} (hc : s.f 2 = (c : Int)) (h : RunR gW pW (lW av) n s out s' out') : Wt s' 8 c [] ∧ out' = out := by
  cases h with
  | stop _ _ _ h => rcases h with h | h; exact absurd h0 h; exact absurd h1 h
  | ill _ _ _ _ _ h => rcases h with h | h; omega; rw [h2] at h; simp [lW] at h
  | step _ _ s1 s2 x o out1 out2 a1 a2 a3 a4 hx hO hR =>
    rw [h2] at hx
    have hx : (lW av)[1]? = some x := hx
    simp only [lW,gZ0,gZ1,Option.some.injEq] at hx
    subst hx
    cases hO with
    | send h => simp at h
    | exp w1 b1 b2 b3 b4 =>
      have b3 : w1.ws.map WaE.core = [(T_p,[])] := b3 rfl
      cases hR with
      | stop => exact ⟨⟨h2,h0,⟨w1,rfl,b4,b3⟩,by show max 1 (8 : Int) = _; rfl,hc,ht⟩,by simp⟩
      | ill _ _ _ _ h => cases h
      | step _ _ _ _ _ _ _ _ _ h => cases h
    | expN b1 b2 => exact absurd trivial b2
    | goto h => simp at h
    | tryA h => simp at h
    | tryB h => simp at h
    | done h => simp at h
    | fail h1 h2 => simp at h2
theorem run_0 {av : Value} {n : Nat} {s s' : PlS} {out out' : List UInt8} (hn : n < 200) (h0 : s.st = 0) (h1 : s.wat = none) (h2 : s.at_ = 0) (ht : s.tr = []) {c : Nat} (hc : s.f 2 = (c : Int)) (h : RunR gW pW (lW av) n s out s' out') : Wt s' 8 c [] ∧ out' = out ++ [13] := by
  cases h with
  | stop _ _ _ h => rcases h with h | h; exact absurd h0 h; exact absurd h1 h
  | ill _ _ _ _ _ h => rcases h with h | h; omega; rw [h2] at h; simp [lW] at h
  | step _ _ s1 s2 x o out1 out2 a1 a2 a3 a4 hx hO hR =>
    rw [h2] at hx
    have hx : (lW av)[0]? = some x := hx
    simp only [lW,gZ0,Option.some.injEq] at hx
    subst hx
    cases hO with
    | send h => exact run_1 (n := n + 1) (s := { s with at_ := IntKind.i64.wrap (s.at_ + 1) }) (by omega) h0 h1 (by show IntKind.i64.wrap (s.at_ + 1) = 1; rw [h2]; rfl) ht hc hR
    | exp w1 b1 b2 b3 b4 => simp at b1
    | expN b1 b2 => exact absurd trivial b2
    | goto h => simp at h
    | tryA h => simp at h
    | tryB h => simp at h
    | done h => simp at h
    | fail h1 h2 => simp at h1
theorem run_3 {av : Value} {n : Nat} {s s' : PlS} {out out' : List UInt8} (hn : n < 200) (h0 : s.st = 0) (h1 : s.wat = none) (h2 : s.at_ = 3) (h : RunR gW pW (lW av) n s out s' out') : s'.st = 2 ∧ out' = out := by
  cases h with
  | stop _ _ _ h => rcases h with h | h; exact absurd h0 h; exact absurd h1 h
  | ill _ _ _ _ _ h => rcases h with h | h; omega; rw [h2] at h; simp [lW] at h
  | step _ _ s1 s2 x o out1 out2 a1 a2 a3 a4 hx hO hR =>
    rw [h2] at hx
    have hx : (lW av)[3]? = some x := hx
    simp only [lW,gZ0,gZ1,Option.some.injEq] at hx
    subst hx
    cases hO with
    | send h => simp at h
    | exp w1 b1 b2 b3 b4 => simp at b1
    | expN b1 b2 => exact absurd trivial b2
    | goto h => simp at h
    | tryA h => simp at h
    | tryB h => simp at h
    | done h => simp at h
    | fail c1 c2 c3 c4 c5 =>
      cases hR with
      | stop => exact ⟨rfl,by simp⟩
      | ill _ _ _ h => cases h
      | step _ _ _ _ _ _ _ _ h => cases h
theorem run_4 {av : Value} {s s' : PlS} {out' : List UInt8} (h0 : s.st = 0) (h1 : s.wat = none) (h2 : s.at_ = 4) (h : RunR gW pW (lW av) 0 s [] s' out') : s'.st = 1 ∧ out' = [] := by
  cases h with
  | stop _ _ _ h => rcases h with h | h; exact absurd h0 h; exact absurd h1 h
  | ill _ _ _ _ _ h => rcases h with h | h; omega; rw [h2] at h; simp [lW] at h
  | step _ _ s1 s2 x o out1 out2 a1 a2 a3 a4 hx hO hR =>
    rw [h2] at hx
    have hx : (lW av)[4]? = some x := hx
    simp only [lW,gZ0,gZ1,Option.some.injEq] at hx
    subst hx
    cases hO with
    | send h => simp at h
    | exp w1 b1 b2 b3 b4 => simp at b1
    | expN b1 b2 => exact absurd trivial b2
    | goto h => simp at h
    | tryA h => simp at h
    | tryB h => simp at h
    | done h =>
      cases hR with
      | stop => exact ⟨rfl,by simp⟩
      | ill _ _ _ h => cases h
      | step _ _ _ _ _ _ _ _ h => cases h
    | fail c1 c2 c3 c4 c5 => simp at c5
theorem run_2 {av : Value} {s s' : PlS} {out' : List UInt8} {c : Nat} (hc : s.f 2 = (c : Int)) (hk : c ≤ 5) (h0 : s.st = 0) (h1 : s.wat = none) (h2 : s.at_ = 2) (ht : s.tr = []) (h : RunR gW pW (lW av) 0 s [] s' out') :
    (c < 5 ∧ Wt s' 8 (c + 1) [] ∧ out' = [13]) ∨ (¬ c < 5 ∧ s'.st = 2 ∧ out' = []) := by
  have hw1 : IntKind.i64.wrap (s.f 2 + 1) = ((c + 1 : Nat) : Int) := by rw [hc,w64 (by omega)]; omega
  cases h with
  | stop _ _ _ h => rcases h with h | h; exact absurd h0 h; exact absurd h1 h
  | ill _ _ _ _ _ h => rcases h with h | h; omega; rw [h2] at h; simp [lW] at h
  | step _ _ s1 s2 x o out1 out2 a1 a2 a3 a4 hx hO hR =>
    rw [h2] at hx
    have hx : (lW av)[2]? = some x := hx
    simp only [lW,gZ0,gZ1,Option.some.injEq] at hx
    subst hx
    cases hO with
    | send h => simp at h
    | exp w1 b1 b2 b3 b4 => simp at b1
    | expN b1 b2 => exact absurd trivial b2
    | goto h => simp at h
    | tryA h hle =>
      left
      rw [h2,hw1] at hle
      have hle : ((c + 1 : Nat) : Int) ≤ 5 := hle
      have := run_0 (n := 0 + 1) (c := c + 1) (s := { s with f := fun j => if j = s.at_ then IntKind.i64.wrap (s.f s.at_ + 1) else s.f j,at_ := findN [97] (lW av) 0 }) (by omega) h0 h1 (by show findN [97] (lW av) 0 = 0; rw [lW_find]; simp) ht (by show (if (2 : Int) = s.at_ then _ else _) = _; rw [h2,if_pos rfl]; exact hw1) hR
      exact ⟨by omega,this.1,by simpa using this.2⟩
    | tryB h hle =>
      right
      rw [h2,hw1] at hle
      have hle : ¬ ((c + 1 : Nat) : Int) ≤ 5 := hle
      have := run_3 (n := 0 + 1) (s := { s with f := fun j => if j = s.at_ then 0 else s.f j,at_ := IntKind.i64.wrap (s.at_ + 1) }) (by omega) h0 h1 (by show IntKind.i64.wrap (s.at_ + 1) = 3; rw [h2]; rfl) hR
      exact ⟨by omega,this.1,by simpa using this.2⟩
    | done h => simp at h
    | fail h1 h2 h3 h4 => simp at h4
theorem tick_W {av : Value} {s s' : PlS} {out : List UInt8} {w : Wk} (h : RelW s w) (hT : TickR gW pW (lW av) s s' out) : RelW s' (wkTick w).1 ∧ out = (wkTick w).2 := by
  cases w with
  | well =>
    cases hT with
    | off h1 => exact ⟨h,rfl⟩
    | wait h1 => have h : s.st = 1 := h; omega
    | go x _ _ h1 => have h : s.st = 1 := h; omega
  | ill =>
    cases hT with
    | off h1 => exact ⟨h,rfl⟩
    | wait h1 => have h : s.st = 2 := h; omega
    | go x _ _ h1 => have h : s.st = 2 := h; omega
  | run left c a =>
    obtain ⟨hW,hl1,hl2,hc⟩ := h
    have hlw : IntKind.i64.wrap (s.left - 1) = (left : Int) - 1 := by rw [hW.left]; exact w64 (by omega)
    obtain ⟨ws,hws,hov,hco⟩ := hW.wat
    simp only [wkTick]
    cases hT with
    | off h1 => rcases h1 with h1 | h1; exact absurd hW.st h1; rw [hws] at h1; cases h1
    | wait h1 h2 h3 =>
      rw [hlw] at h3
      rw [if_pos (by omega)]
      exact ⟨⟨⟨hW.at_,hW.st,⟨ws,hws,hov,hco⟩,by show IntKind.i64.wrap (s.left - 1) = _; rw [hlw]; omega,hW.f,hW.tr⟩,by omega,by omega,hc⟩,rfl⟩
    | go x _ _ h1 h2 h3 h4 hx hR =>
      rw [hlw] at h3
      rw [if_neg (by omega)]
      rw [hW.at_] at hx
      have hx : (lW av)[1]? = some x := hx
      simp only [lW,gZ0,gZ1,Option.some.injEq] at hx
      subst hx
      have := run_2 (c := c) (s := { s with left := IntKind.i64.wrap (s.left - 1),wat := none,at_ := findN [99] (lW av) 0 }) hW.f hc hW.st rfl (by show findN [99] (lW av) 0 = 2; rw [lW_find]; simp) hW.tr hR
      rcases this with ⟨b1,b2,b3⟩ | ⟨b1,b2,b3⟩
      · rw [if_pos b1]
        exact ⟨⟨b2,by omega,by omega,by omega⟩,b3⟩
      · rw [if_neg b1]
        exact ⟨b2,b3⟩
theorem best_1 {ws : WatS} {b : UInt8} {a : List Bool} (hco : ws.ws.map WaE.core = [(T_p,a)]) : watC b ws = [(T_p,stepB T_p a b true)] ∧ bestC b ws = if endsB T_p (stepB T_p a b true) = true then 0 else -1 := by
  have h1 : watC b ws = [(T_p,stepB T_p a b true)] := by unfold watC; rw [hco]; rfl
  have hl : ws.ws.length = 1 := by have := congrArg List.length hco; simpa using this
  refine ⟨h1,?_⟩
  unfold bestC
  rw [h1,hl]
  simp [bestJ]
theorem put_W {av : Value} {s s' : PlS} {b : UInt8} {out : List UInt8} {w : Wk} (h : RelW s w) (hT : PutR gW pW (lW av) b s s' out) : RelW s' (wkPut w b) ∧ out = [] := by
  cases w with
  | well =>
    have h : s.st = 1 := h
    cases hT with
    | off h1 => exact ⟨h,rfl⟩
    | over w h1 => omega
    | no w w' h1 => omega
    | go w x a o s2 out h1 => omega
  | ill =>
    have h : s.st = 2 := h
    cases hT with
    | off h1 => exact ⟨h,rfl⟩
    | over w h1 => omega
    | no w w' h1 => omega
    | go w x a o s2 out h1 => omega
  | run left c a =>
    obtain ⟨hW,hl1,hl2,hc⟩ := h
    obtain ⟨ws,hws,hov,hco⟩ := hW.wat
    have hb := best_1 (b := b) hco
    simp only [wkPut]
    cases hT with
    | off h1 => rcases h1 with h1 | h1; exact absurd hW.st h1; rw [hws] at h1; cases h1
    | over w h1 h2 h3 => rw [hws] at h2; cases h2; rw [hov] at h3; cases h3
    | no w w' h1 h2 h3 h4 h5 h6 h7 =>
      rw [hws] at h2; cases h2
      rw [hb.2] at h7
      split at h7
      · omega
      · rename_i hne
        rw [if_neg hne]
        rw [hb.1] at h4
        exact ⟨⟨⟨hW.at_,hW.st,⟨w',rfl,h6,h4⟩,hW.left,hW.f,hW.tr⟩,hl1,hl2,hc⟩,rfl⟩
    | go w x a' o s2 out h1 h2 h3 h4 h5 hx ha hR =>
      rw [hws] at h2; cases h2
      rw [hb.2] at h4 ha
      split at h4
      · rename_i he
        rw [if_pos he] at ha ⊢
        rw [hW.at_] at hx
        have hx : (lW av)[1]? = some x := hx
        simp only [lW,gZ0,gZ1,Option.some.injEq] at hx
        subst hx
        have ha : ([⟨[61,62,32],[98]⟩] : List Arm)[0]? = some a' := ha
        simp only [gZ0,Option.some.injEq] at ha
        subst ha
        have := run_4 (s := { s with wat := none,ot := some o,tr := s.tr ++ [bestC b ws],at_ := findN [98] (lW av) 0 }) hW.st rfl (by show findN [98] (lW av) 0 = 4; rw [lW_find]; simp) hR
        exact ⟨this.1,this.2⟩
      · omega
theorem of_W {av : Value} {im : Nat} {s' : PlS} {out : List UInt8} (h : RunR gW pW (lW av) 0 (pl0 im) [] s' out) : RelW s' (.run 8 0 []) ∧ out = [13] := by
  have := run_0 (c := 0) (by omega) rfl rfl rfl rfl rfl h
  exact ⟨⟨this.1,by omega,by omega,by omega⟩,by simpa using this.2⟩
end Go.Proofs.YtccjlggpiliilaaGreatDoor.Ab

set_option linter.unusedVariables false
set_option linter.unusedSimpArgs false
namespace Go.Proofs.YtccjlggpiliilaaGreatDoor.Ab
open Go Go.RowKit
set_option maxHeartbeats 4000000
set_option maxRecDepth 100000
theorem errV_no {n : Nat} : errV n = errnoV n := by
  unfold errnoV
  cases n with
  | zero => rfl
  | succ n => rw [if_neg (by omega)]; rfl
def armL : List Value := [.string ⟨#[61,62,32]⟩,.string ⟨#[98]⟩]
theorem c_hWake {w0 : World} {V : Nat → Prop} {m0 m : Mem} {l : HL} {Q : Value → Mem → Prop} (h : Sep m0 V m l)
    (hq : ∀ M is ia,Sep m0 V M ((some is,.own ((lW (.slice (some ⟨ia,0,none⟩) 1 2)).flatMap vC) 101) :: (some ia,.own armL 105) :: l) → Q (.slice (some ⟨is,0,none⟩) 5 7) M) : AbC Tryz.prog w0 20 [] m Q := by
  refine AbC_fn ok20 (by simp) ?_
  simp -implicitDefEqProofs (disch := first | assumption | omega) [rc20,ro20,wkB,rtZ,sbZ,dC,ev,fiZ,pkZ,putAt,bnd,slD,gZ0,gZ1,Mem.cell,Mem.row,coZ,crZ]
  refine SK_bslS h (cs := armL) (by simp [fiZ,pkZ,wkB,rtZ,sbZ,dC,ev,fiZ,pkZ,putAt,bnd,slD,gZ0,gZ1,Mem.cell,Mem.row,coZ,crZ,armL]) rfl fun ia m1 h1 _ _ => ?_
  simp -implicitDefEqProofs (disch := first | assumption | omega) [wkB,rtZ,sbZ,dC,ev,fiZ,pkZ,putAt,bnd,slD,gZ0,gZ1,Mem.cell,Mem.row,coZ,crZ]
  refine SK_bslS h1 (cs := (lW (.slice (some ⟨ia,0,none⟩) 1 2)).flatMap vC) (by simp [fiZ,pkZ,wkB,rtZ,sbZ,dC,ev,fiZ,pkZ,putAt,bnd,slD,gZ0,gZ1,Mem.cell,Mem.row,coZ,crZ,lW,vC,dsC]) rfl fun is m2 h2 _ _ => ?_
  simp -implicitDefEqProofs (disch := first | assumption | omega) [wkB,rtZ,sbZ,dC,ev,fiZ,pkZ,putAt,bnd,slD,gZ0,gZ1,Mem.cell,Mem.row,coZ,crZ]
  exact hq m2 is ia h2
theorem wake_ds {V : Nat → Prop} {m0 m : Mem} {l : HL} {is ia : Nat} (h : Sep m0 V m l) (h1 : (some is,Ent.own ((lW (.slice (some ⟨ia,0,none⟩) 1 2)).flatMap vC) 101) ∈ l) (h2 : (some ia,Ent.own armL 105) ∈ l) {X : Nat → Prop} (hX : ∀ i,i = is ∨ i = ia → X i) :
    DsX X m (.slice (some ⟨is,0,none⟩) 5 7) (lW (.slice (some ⟨ia,0,none⟩) 1 2)) := by
  refine ⟨h.rdm (ob := some is) (k := 5) h1 (by simp [lW,vC,dsC]) (fun e => by cases e) (fun i hi => by cases hi; exact hX _ (.inl rfl)),fun x hx => ?_⟩
  simp only [lW,List.mem_cons,List.not_mem_nil,or_false] at hx
  rcases hx with rfl | rfl | rfl | rfl | rfl
  · exact RdV.nil
  · exact h.rdm (ob := some ia) (k := 1) h2 rfl (fun e => by cases e) (fun i hi => by cases hi; exact hX _ (.inr rfl))
  · exact RdV.nil
  · exact RdV.nil
  · exact RdV.nil
structure ImsV (X : Nat → Prop) (m : Mem) (v : Value) (ims : List (Value × List UInt8)) : Prop where
  sl : RdV X m 1 v (ims.flatMap fun x => [x.1]) ims.length
  im : ∀ x ∈ ims,RdV X m 1 x.1 (x.2.map byteV) x.2.length
  sz : ∀ x ∈ ims,x.2.length ≤ 9223372036854775806
theorem ImsV.sep {V : Nat → Prop} {m0 m : Mem} {l : HL} {v : Value} {ims : List (Value × List UInt8)} (h : ImsV V m0 v ims) (hs : Sep m0 V m l) : ImsV V m v ims := ⟨h.sl.sep hs,fun x hx => (h.im x hx).sep hs,h.sz⟩
def okIm (e : En) (d : List UInt8) : Bool := ((d.length : Int) == e.s) && (((prN d : Nat) : Int) == e.p)
def rightF (es : List En) (ds : List (List UInt8)) : Nat :=
  if (chkV es).2 ≠ 0 then (chkV es).2 else if ds.length ≠ es.length then 12 else if (List.range es.length).all (fun k => okIm (es.getD k ⟨⟨#[]⟩,0,0,0,0⟩) (ds.getD k [])) = true then 0 else 12
theorem c_hRight {w0 : World} {m : Mem} {v1 v2 : Value} {es : List En} {ims : List (Value × List UInt8)} {Q : Value → Mem → Prop} (hp : Part L0 m) (h1 : RdV (fun i => i < m.next) m 5 v1 (es.flatMap En.cells) es.length) (h2 : ImsV (fun i => i < m.next) m v2 ims) (he : ∀ e ∈ es,EnI e) (hn : es.length ≤ 9223372036854775806)
    (hq : ∀ M,Old m M → Q (errV (rightF es (ims.map (·.2)))) M) : AbC Tryz.prog w0 29 [v1,v2] m Q := by
  refine AbC_fn ok29 (by simp) ?_
  simp -implicitDefEqProofs (disch := first | assumption | omega) [rc29,ro29,wkB,rtZ,sbZ,dC,ev,fiZ,pkZ,putAt,bnd,slD,gZ0,gZ1,Mem.cell,Mem.row,coZ,crZ]
  refine c_mCheck h1.sl (fun b hb => (h1.bl b hb).1) he (by omega) fun m1 o1 => ?_
  have hs1 := (Sep.ofOld hp).old o1
  rw [← errV_no]
  unfold rightF at hq
  cases hc : (chkV es).2 with
  | succ n =>
    rw [if_pos (by omega),hc] at hq
    simp -implicitDefEqProofs (disch := first | assumption | omega) [wkB,rtZ,sbZ,dC,ev,fiZ,pkZ,putAt,bnd,slD,gZ0,gZ1,Mem.cell,Mem.row,coZ,crZ,errV]
    exact hq m1 o1
  | zero =>
    rw [if_neg (by omega)] at hq
    have hl1 := (h1.sep hs1).sl.slen
    have hl2 := (h2.sep hs1).sl.sl.slen
    have hml : (ims.map (·.2)).length = ims.length := by simp
    rw [hml] at hq
    by_cases hle : ims.length = es.length
    case neg =>
      rw [if_pos hle] at hq
      have hne : ((ims.length : Int) != (es.length : Int)) = true := by simp; omega
      simp -implicitDefEqProofs (disch := first | assumption | omega) [wkB,rtZ,sbZ,dC,ev,fiZ,pkZ,putAt,bnd,slD,gZ0,gZ1,Mem.cell,Mem.row,coZ,crZ,errV,rc29_4,hl1,hl2,hne]
      exact hq m1 o1
    rw [if_neg (by omega)] at hq
    have hne : ((ims.length : Int) != (es.length : Int)) = false := by simp; omega
    have hrng : ∀ k,k < es.length → es.getD k ⟨⟨#[]⟩,0,0,0,0⟩ = es[k]?.getD ⟨⟨#[]⟩,0,0,0,0⟩ := fun k _ => by simp [List.getD]
    simp -implicitDefEqProofs (disch := first | assumption | omega) [wkB,rtZ,sbZ,dC,ev,fiZ,pkZ,putAt,bnd,slD,gZ0,gZ1,Mem.cell,Mem.row,coZ,crZ,errV,rc29_4,rc29_3,hl1,hl2,hne]
    refine LoopW_of (fun k ts m' => ∃ (j : Nat),j + k = es.length ∧ Old m m' ∧ (∀ i,i < j → okIm (es.getD i ⟨⟨#[]⟩,0,0,0,0⟩) ((ims.map (·.2)).getD i []) = true) ∧ ts 1 = v2 ∧ ts 23 = v1 ∧ ts 24 = .int .i64 (es.length : Int) ∧ ts 25 = .int .i64 (j : Int)) es.length ?_ ?_
    · exact ⟨0,by omega,o1,fun i hi => by omega,by simp [frA_at],by simp [frA_at],by simp,by simp⟩
    rintro k ts m2 K ⟨j,hj,o2,hok,t1,t23,t24,t25⟩ hK
    by_cases hjl : j < es.length
    · have hj8 : (j : Int) < (es.length : Int) := by omega
      have hjw : IntKind.i64.wrap ((j : Int) + 1) = (j : Int) + 1 := w64 (by omega)
      have hs2 := (Sep.ofOld hp).old o2
      obtain ⟨bi,bo,L,hvv,hL,hLl,hLt,-⟩ := (h1.sep hs2).sl.at hjl
      rw [flat_at enl es (List.getElem?_eq_getElem hjl)] at hLt
      have hle5 : bo + j * 5 + 5 ≤ L.length := by omega
      have hidx : sidx 5 v1 (.int .i64 (j : Int)) = some (.pointer (some ⟨bi,bo + j * 5,none⟩)) := by rw [hvv]; simpa using sidx_at (b := bi) (o := bo) (n := es.length) (c := 5) (j := j) (sz := 5) (k := .i64) hjl
      have hjm : j < ims.length := by omega
      obtain ⟨x,hx⟩ : ∃ x,ims[j] = x := ⟨_,rfl⟩
      obtain ⟨e,hee⟩ : ∃ e,es[j] = e := ⟨_,rfl⟩
      have hde : es.getD j ⟨⟨#[]⟩,0,0,0,0⟩ = e := by rw [List.getD,List.getElem?_eq_getElem hjl]; exact hee
      have hdx : (ims.map (·.2)).getD j [] = x.2 := by simp [List.getD,List.getElem?_eq_getElem hjm,hx]
      rw [hee] at hLt
      obtain ⟨bj,bp,L2,hvv2,hL2,hLl2,-,hLc2⟩ := (h2.sep hs2).sl.sl.at hjm
      have hc2 := hLc2 0 (by omega)
      have hfm : (ims.flatMap fun x => [x.1])[j]? = some x.1 := by
        have := flat_at' (f := fun x : Value × List UInt8 => [x.1]) (k := 1) (fun _ => rfl) ims (List.getElem?_eq_getElem hjm) (i := 0) (by omega)
        rw [hx] at this
        simpa using this
      simp only [Nat.mul_one,Nat.add_zero] at hc2
      rw [hfm] at hc2
      have hidx2 : sidx 1 v2 (.int .i64 (j : Int)) = some (.pointer (some ⟨bj,bp + j,none⟩)) := by rw [hvv2]; simpa using sidx_at (b := bj) (o := bp) (n := ims.length) (c := 1) (j := j) (sz := 1) (k := .i64) hjm
      have hxm : x ∈ ims := by rw [← hx]; exact List.getElem_mem hjm
      have hrx := h2.im x hxm
      have hsx := (hrx.sep hs2).sl.slen
      have ex : En.cells e = [.string e.nm,.int .i64 e.a,.int .i64 e.s,.int .u32 e.p,.int .i64 e.w] := rfl
      simp -implicitDefEqProofs (disch := first | assumption | omega) [rc29_1,rc29_0,wkB,rtZ,sbZ,dC,ev,fiZ,pkZ,putAt,bnd,slD,gZ0,gZ1,Mem.cell,Mem.row,coZ,crZ,t1,t23,t24,t25,hj8,hidx,hL,hLt,hle5]
      refine SK_alS hs2 fun b3 m3 h3 _ _ => ?_
      simp -implicitDefEqProofs (disch := first | assumption | omega) [wkB,rtZ,sbZ,dC,ev,fiZ,pkZ,putAt,bnd,slD,gZ0,gZ1,Mem.cell,Mem.row,coZ,crZ]
      refine SK_stS h3 0 rfl (o := 0) (vs := En.cells e) (cs' := En.cells e) (by simp [wkB,rtZ,sbZ,dC,ev,fiZ,pkZ,putAt,bnd,slD,gZ0,gZ1,Mem.cell,Mem.row,coZ,crZ]) (by simp [wkB,rtZ,sbZ,dC,ev,fiZ,pkZ,putAt,bnd,slD,gZ0,gZ1,Mem.cell,Mem.row,coZ,crZ,ex]) (by simp) rfl (by simp [ex,oneC]) (by simp [putAt,ex]) fun m4 h4 _ => ?_
      have g4 := h4.get 0 rfl
      rw [ex] at g4
      have q2 : m4.get bj = m2.get bj := by
        have b1 := (h2.sep hs2).sl.bl bj (by rw [hvv2]; rfl)
        rw [h4.k.2 bj b1.2 b1.2,hs2.k.2 bj b1.2 b1.2]
      have hL2' : (m4.get bj).cells? = some L2 := by rw [q2]; exact hL2
      have hsx4 := (hrx.sep h4).sl.slen
      have hstep : (∀ M,Old m M → okIm e x.2 = true → AbW Tryz.prog w0 (.run [⟨(some 49),none,(.r (.bin .add (.tmp 25) (.const (.int .i64 1)))),[]⟩,⟨(some 25),none,(.r (.mv (.tmp 49))),[]⟩]) (fun _ _ _ => True) ts M) → True := fun _ => trivial
      by_cases hsz : (x.2.length : Int) = e.s
      · have hne2 : ((x.2.length : Int) != e.s) = false := by simp [hsz]
        simp -implicitDefEqProofs (disch := first | assumption | omega) [wkB,rtZ,sbZ,dC,ev,fiZ,pkZ,putAt,bnd,slD,gZ0,gZ1,Mem.cell,Mem.row,coZ,crZ,t1,t25,hidx2,hL2',hc2,getL1 hc2,hsx4,g4,hne2]
        refine c_Print h4.pt (hrx.sep h4) (h2.sz x hxm) fun m5 o5 => ?_
        have h5 := h4.old o5
        have g5 := h5.get 0 rfl
        rw [ex] at g5
        by_cases hpr : ((prN x.2 : Nat) : Int) = e.p
        · have hokj : okIm e x.2 = true := by simp [okIm,hsz,hpr]
          have hne3 : (((prN x.2 : Nat) : Int) != e.p) = false := by simp [hpr]
          simp -implicitDefEqProofs (disch := first | assumption | omega) [wkB,rtZ,sbZ,dC,ev,fiZ,pkZ,putAt,bnd,slD,gZ0,gZ1,Mem.cell,Mem.row,coZ,crZ,g5,hne3,t25,hjw]
          refine hK (k - 1) _ _ (by omega) ⟨j + 1,by omega,h5.toOld,fun i hi => ?_,by simp [t1],by simp [t23],by simp [t24],by simp⟩
          rcases Nat.lt_or_ge i j with h' | h'
          · exact hok i h'
          · have : i = j := by omega
            subst this
            rw [hde,hdx]; exact hokj
        · have hne3 : (((prN x.2 : Nat) : Int) != e.p) = true := by simp [hpr]
          simp -implicitDefEqProofs (disch := first | assumption | omega) [wkB,rtZ,sbZ,dC,ev,fiZ,pkZ,putAt,bnd,slD,gZ0,gZ1,Mem.cell,Mem.row,coZ,crZ,g5,hne3]
          rw [if_neg (fun hall => by
            rw [List.all_eq_true] at hall
            have := hall j (List.mem_range.2 hjl)
            rw [hde,hdx] at this
            simp [okIm,hpr] at this)] at hq
          exact hq m5 h5.toOld
      · have hne2 : ((x.2.length : Int) != e.s) = true := by simp [hsz]
        simp -implicitDefEqProofs (disch := first | assumption | omega) [wkB,rtZ,sbZ,dC,ev,fiZ,pkZ,putAt,bnd,slD,gZ0,gZ1,Mem.cell,Mem.row,coZ,crZ,t1,t25,hidx2,hL2',hc2,getL1 hc2,hsx4,g4,hne2]
        rw [if_neg (fun hall => by
          rw [List.all_eq_true] at hall
          have := hall j (List.mem_range.2 hjl)
          rw [hde,hdx] at this
          simp [okIm,hsz] at this)] at hq
        exact hq m4 h4.toOld
    · have hj8 : ¬ (j : Int) < (es.length : Int) := by omega
      simp -implicitDefEqProofs (disch := first | assumption | omega) [rc29_1,rc29_2,wkB,rtZ,sbZ,dC,ev,fiZ,pkZ,putAt,bnd,slD,gZ0,gZ1,Mem.cell,Mem.row,coZ,crZ,t24,t25,hj8]
      rw [if_pos (by
        rw [List.all_eq_true]
        intro i hi
        exact hok i (by have := List.mem_range.1 hi; omega))] at hq
      exact hq m2 o2
end Go.Proofs.YtccjlggpiliilaaGreatDoor.Ab

set_option linter.unusedVariables false
set_option linter.unusedSimpArgs false
namespace Go.Proofs.YtccjlggpiliilaaGreatDoor.Ab
open Go Go.RowKit
set_option maxHeartbeats 4000000
set_option maxRecDepth 100000
theorem c_hFit {w0 : World} {V : Nat → Prop} {m0 m : Mem} {l : HL} {tr wt ct rm : Int} {Q : Value → Mem → Prop} (h : Sep m0 V m l)
    (hq : ∀ M is ia,Sep m0 V M ((some is,.own ((lW (.slice (some ⟨ia,0,none⟩) 1 2)).flatMap vC) 101) :: (some ia,.own armL 105) :: l) → Q (.agg ⟨[.int .i64 tr,.int .i64 wt,.int .i64 (clampI 1 9 ct),.int .i64 (clampI 1 4096 rm),.slice (some ⟨is,0,none⟩) 5 7]⟩) M) :
    AbC Tryz.prog w0 26 [.agg ⟨[.int .i64 tr,.int .i64 wt,.int .i64 ct,.int .i64 rm,.slice none 0 0]⟩] m Q := by
  refine AbC_fn ok26 (by simp) ?_
  have e1 : ∀ {a b x : Int},(if a < (if b < x then b else x) then (if b < x then b else x) else a) = clampI a b x := fun {a b x} => rfl
  simp -implicitDefEqProofs (disch := first | assumption | omega) [rc26,ro26,wkB,rtZ,sbZ,dC,ev,fiZ,pkZ,putAt,bnd,slD,gZ0,gZ1,Mem.cell,Mem.row,coZ,crZ]
  refine SK_bxS h (cs := [.int .i64 tr,.int .i64 wt,.int .i64 ct,.int .i64 rm,.slice none 0 0]) (by simp [wkB,rtZ,sbZ,dC,ev,fiZ,pkZ,putAt,bnd,slD,gZ0,gZ1,Mem.cell,Mem.row,coZ,crZ]) fun b1 m1 h1 _ _ => ?_
  simp -implicitDefEqProofs (disch := first | assumption | omega) [wkB,rtZ,sbZ,dC,ev,fiZ,pkZ,putAt,bnd,slD,gZ0,gZ1,Mem.cell,Mem.row,coZ,crZ]
  refine SK_alS h1 fun b2 m2 h2 _ _ => ?_
  have g2 := h2.get 1 rfl
  simp -implicitDefEqProofs (disch := first | assumption | omega) [wkB,rtZ,sbZ,dC,ev,fiZ,pkZ,putAt,bnd,slD,gZ0,gZ1,Mem.cell,Mem.row,coZ,crZ,g2]
  refine SK_stS h2 1 rfl (o := 2) (vs := [.int .i64 (clampI 1 9 ct)]) (cs' := [.int .i64 tr,.int .i64 wt,.int .i64 (clampI 1 9 ct),.int .i64 rm,.slice none 0 0]) (by simp [wkB,rtZ,sbZ,dC,ev,fiZ,pkZ,putAt,bnd,slD,gZ0,gZ1,Mem.cell,Mem.row,coZ,crZ]) (by simp [wkB,rtZ,sbZ,dC,ev,fiZ,pkZ,putAt,bnd,slD,gZ0,gZ1,Mem.cell,Mem.row,coZ,crZ]; rfl) (by simp) rfl rfl rfl fun m3 h3 _ => ?_
  have g3 := h3.get 1 rfl
  simp -implicitDefEqProofs (disch := first | assumption | omega) [wkB,rtZ,sbZ,dC,ev,fiZ,pkZ,putAt,bnd,slD,gZ0,gZ1,Mem.cell,Mem.row,coZ,crZ,g3]
  refine SK_stS h3 1 rfl (o := 3) (vs := [.int .i64 (clampI 1 4096 rm)]) (cs' := [.int .i64 tr,.int .i64 wt,.int .i64 (clampI 1 9 ct),.int .i64 (clampI 1 4096 rm),.slice none 0 0]) (by simp [wkB,rtZ,sbZ,dC,ev,fiZ,pkZ,putAt,bnd,slD,gZ0,gZ1,Mem.cell,Mem.row,coZ,crZ]) (by simp [wkB,rtZ,sbZ,dC,ev,fiZ,pkZ,putAt,bnd,slD,gZ0,gZ1,Mem.cell,Mem.row,coZ,crZ]; rfl) (by simp) rfl rfl rfl fun m4 h4 _ => ?_
  have g4 := h4.get 1 rfl
  simp -implicitDefEqProofs (disch := first | assumption | omega) [wkB,rtZ,sbZ,dC,ev,fiZ,pkZ,putAt,bnd,slD,gZ0,gZ1,Mem.cell,Mem.row,coZ,crZ,g4]
  refine c_hWake h4 fun m5 is ia h5 => ?_
  simp -implicitDefEqProofs (disch := first | assumption | omega) [wkB,rtZ,sbZ,dC,ev,fiZ,pkZ,putAt,bnd,slD,gZ0,gZ1,Mem.cell,Mem.row,coZ,crZ]
  refine SK_stS h5 3 rfl (o := 4) (vs := [.slice (some ⟨is,0,none⟩) 5 7]) (cs' := [.int .i64 tr,.int .i64 wt,.int .i64 (clampI 1 9 ct),.int .i64 (clampI 1 4096 rm),.slice (some ⟨is,0,none⟩) 5 7]) (by simp [wkB,rtZ,sbZ,dC,ev,fiZ,pkZ,putAt,bnd,slD,gZ0,gZ1,Mem.cell,Mem.row,coZ,crZ]) (by simp [wkB,rtZ,sbZ,dC,ev,fiZ,pkZ,putAt,bnd,slD,gZ0,gZ1,Mem.cell,Mem.row,coZ,crZ]) (by simp) rfl rfl rfl fun m6 h6 _ => ?_
  have g6 := h6.get 3 rfl
  simp -implicitDefEqProofs (disch := first | assumption | omega) [wkB,rtZ,sbZ,dC,ev,fiZ,pkZ,putAt,bnd,slD,gZ0,gZ1,Mem.cell,Mem.row,coZ,crZ,rc26_0,g6]
  refine SK_stS h6 2 rfl (o := 0) (vs := [.int .i64 tr,.int .i64 wt,.int .i64 (clampI 1 9 ct),.int .i64 (clampI 1 4096 rm),.slice (some ⟨is,0,none⟩) 5 7]) (cs' := [.int .i64 tr,.int .i64 wt,.int .i64 (clampI 1 9 ct),.int .i64 (clampI 1 4096 rm),.slice (some ⟨is,0,none⟩) 5 7]) (by simp [wkB,rtZ,sbZ,dC,ev,fiZ,pkZ,putAt,bnd,slD,gZ0,gZ1,Mem.cell,Mem.row,coZ,crZ]) (by simp [wkB,rtZ,sbZ,dC,ev,fiZ,pkZ,putAt,bnd,slD,gZ0,gZ1,Mem.cell,Mem.row,coZ,crZ]) (by simp) rfl rfl rfl fun m7 h7 _ => ?_
  have g7 := h7.get 2 rfl
  simp -implicitDefEqProofs (disch := first | assumption | omega) [wkB,rtZ,sbZ,dC,ev,fiZ,pkZ,putAt,bnd,slD,gZ0,gZ1,Mem.cell,Mem.row,coZ,crZ,g7]
  exact hq m7 is ia (h7.sub (by
    refine List.Sublist.cons_cons _ (List.Sublist.cons_cons _ ?_)
    exact (List.Sublist.refl l).cons _ |>.cons _))
def imC (is : List (Option Nat × List UInt8)) : List Value := is.map fun x => slV x.1 x.2.length 1
def imD (is : List (Option Nat × List UInt8)) : HL := is.map fun x => byH x.1 x.2
def ho0 (tr wt ct : Int) (R : Nat) (vw ve vi : Value) : Ho := ⟨tr,wt,ct,R,vw,ve,vi,0,0,0,.pointer none,.nilIface,.pointer none,0,[],[],[],0,⟨1,0,[]⟩,0,0,0⟩
structure OfR (es : List En) (ds : List (List UInt8)) (ve vi : Value) (EI : HL) : Prop where
  ex : ∃ oe oi is,ve = slV oe es.length 5 ∧ vi = slV oi ds.length 1 ∧ EI = (oe,.own (es.flatMap En.cells) 56) :: (oi,.own (imC is) 28) :: imD is ∧ is.map (·.2) = ds ∧ (oe = none → es.length = 0) ∧ (oi = none → ds.length = 0) ∧ ∀ x ∈ is,x.1 = none → x.2.length = 0
theorem c_hWoken {w0 : World} {V : Nat → Prop} {mb m0 m : Mem} {T HP : HL} {ih ip : Nat} {s : Ho} {x : HoX} {l : List DV} {pls : PlS} {Q : Value → Mem → Prop} (h : Sep m0 V m (hoH ih s x ++ T)) (hx : HoOk s x) (hpl : s.pl = .pointer (some ⟨ip,0,none⟩)) (hH : ∀ p ∈ HP,p ∈ hoH ih s x ++ T) (hb : BaseK mb m) (hR : PlR mb HP ip l pls)
    (hst : pls.st = 0 ∨ pls.st = 1 ∨ pls.st = 2) (q0 : pls.st = 0 → Q (.tuple ⟨[]⟩) m) (q1 : pls.st = 1 → AbC Tryz.prog w0 52 [.pointer (some ⟨ih,0,none⟩)] m fun _ M => Q (.tuple ⟨[]⟩) M) (q2 : pls.st = 2 → ∀ M,Sep m0 V M (hoH ih (hEndF s 11) x ++ T) → HoOk (hEndF s 11) x → Q (.tuple ⟨[]⟩) M) :
    AbC Tryz.prog w0 33 [.pointer (some ⟨ih,0,none⟩)] m Q := by
  refine AbC_fn ok33 (by simp) ?_
  have g0 := h.get 0 rfl
  simp only [hoC,hpl] at g0
  simp -implicitDefEqProofs (disch := first | assumption | omega) [rc33,ro33,wkB,rtZ,sbZ,dC,ev,fiZ,pkZ,putAt,bnd,slD,gZ0,gZ1,Mem.cell,Mem.row,coZ,crZ,g0]
  refine c_StateP h hH hb hR ?_
  rcases hst with hst | hst | hst
  · rw [hst]
    simp -implicitDefEqProofs (disch := first | assumption | omega) [wkB,rtZ,sbZ,dC,ev,fiZ,pkZ,putAt,bnd,slD,gZ0,gZ1,Mem.cell,Mem.row,coZ,crZ]
    exact q0 hst
  · rw [hst]
    simp -implicitDefEqProofs (disch := first | assumption | omega) [wkB,rtZ,sbZ,dC,ev,fiZ,pkZ,putAt,bnd,slD,gZ0,gZ1,Mem.cell,Mem.row,coZ,crZ]
    refine (q1 hst).mono fun u M hM => ?_
    simp -implicitDefEqProofs (disch := first | assumption | omega) [wkB,rtZ,sbZ,dC,ev,fiZ,pkZ,putAt,bnd,slD,gZ0,gZ1,Mem.cell,Mem.row,coZ,crZ]
    exact hM
  · rw [hst]
    have e11 : (Value.iface 44 (.int .i64 11)) = errV 11 := rfl
    simp -implicitDefEqProofs (disch := first | assumption | omega) [wkB,rtZ,sbZ,dC,ev,fiZ,pkZ,putAt,bnd,slD,gZ0,gZ1,Mem.cell,Mem.row,coZ,crZ,e11]
    refine c_hEnd h hx fun M hM hokM => ?_
    simp -implicitDefEqProofs (disch := first | assumption | omega) [wkB,rtZ,sbZ,dC,ev,fiZ,pkZ,putAt,bnd,slD,gZ0,gZ1,Mem.cell,Mem.row,coZ,crZ]
    exact q2 hst M hM hokM
def frO (ih : Nat) (s : Ho) (x : HoX) (oe : Option Nat) (es : List En) (oi : Option Nat) (iz : List (Option Nat × List UInt8)) (is ia b1 : Nat) (cf : List Value) : HL :=
  hoH ih s x ++ [(oe,.own (es.flatMap En.cells) 56),(oi,.own (imC iz) 28),(some is,.own ((lW (.slice (some ⟨ia,0,none⟩) 1 2)).flatMap vC) 101),(some ia,.own armL 105),(some b1,.own cf 26)]
theorem imC_len (iz : List (Option Nat × List UInt8)) : (imC iz).length = iz.length := by simp [imC]
theorem c_hOf {w0 : World} {mb m : Mem} {tr wt ct rm : Int} {v1 v2 : Value} {es : List En} {ims : List (Value × List UInt8)} {Q : Value → Mem → Prop} (hp : Part L0 m) (hbm : BaseK mb m) (h1 : RdV (fun i => i < m.next) m 5 v1 (es.flatMap En.cells) es.length) (h2 : ImsV (fun i => i < m.next) m v2 ims) (he : ∀ e ∈ es,EnI e)
    (hn : es.length ≤ 1000000000) (hn2 : ims.length ≤ 1000000000) (hsz : ∀ x ∈ ims,x.2.length ≤ 100000000000000)
    (hbad : rightF es (ims.map (·.2)) ≠ 0 → ∀ M ih x T R vw ve vi EI,Sep m (fun i => i < m.next) M (hoH ih (hEndF (ho0 tr wt (clampI 1 9 ct) R vw ve vi) (rightF es (ims.map (·.2)))) x ++ (EI ++ T)) → HoOk (hEndF (ho0 tr wt (clampI 1 9 ct) R vw ve vi) (rightF es (ims.map (·.2)))) x → (R : Int) = clampI 1 4096 rm → OfR es (ims.map (·.2)) ve vi EI → Q (.pointer (some ⟨ih,0,none⟩)) M)
    (hgood : rightF es (ims.map (·.2)) = 0 → ∀ M ih x HP R vw ve vi EI ip av pls,Sep m (fun i => i < m.next) M (hoH ih { ho0 tr wt (clampI 1 9 ct) R vw ve vi with pl := .pointer (some ⟨ip,0,none⟩),out := [13] } x ++ (EI ++ HP)) → HoOk { ho0 tr wt (clampI 1 9 ct) R vw ve vi with pl := .pointer (some ⟨ip,0,none⟩),out := [13] } x → (R : Int) = clampI 1 4096 rm → OfR es (ims.map (·.2)) ve vi EI → PlR mb HP ip (lW av) pls → RelW pls (.run 8 0 []) → Q (.pointer (some ⟨ih,0,none⟩)) M) :
    AbC Tryz.prog w0 10 [.agg ⟨[.int .i64 tr,.int .i64 wt,.int .i64 ct,.int .i64 rm,.slice none 0 0]⟩,v1,v2] m Q := by
  refine AbC_fn ok10 (by simp) ?_
  obtain ⟨R,hR⟩ : ∃ R : Nat,(R : Int) = clampI 1 4096 rm := ⟨(clampI 1 4096 rm).toNat,by have := (clamp_le 1 4096 rm (by omega)).1; omega⟩
  have hR1 : 1 ≤ R ∧ R ≤ 4096 := by have := clamp_le 1 4096 rm (by omega); omega
  simp -implicitDefEqProofs (disch := first | assumption | omega) [rc10,ro10,wkB,rtZ,sbZ,dC,ev,fiZ,pkZ,putAt,bnd,slD,gZ0,gZ1,Mem.cell,Mem.row,coZ,crZ]
  refine SK_bxS (Sep.ofOld hp) (cs := [.int .i64 tr,.int .i64 wt,.int .i64 ct,.int .i64 rm,.slice none 0 0]) (by simp [wkB,rtZ,sbZ,dC,ev,fiZ,pkZ,putAt,bnd,slD,gZ0,gZ1,Mem.cell,Mem.row,coZ,crZ]) fun b1 m1 hs1 _ _ => ?_
  have g1 := hs1.get 0 rfl
  simp -implicitDefEqProofs (disch := first | assumption | omega) [wkB,rtZ,sbZ,dC,ev,fiZ,pkZ,putAt,bnd,slD,gZ0,gZ1,Mem.cell,Mem.row,coZ,crZ,g1]
  refine c_hFit hs1 fun m2 is ia hs2 => ?_
  rw [← hR]
  obtain ⟨vw,hvw⟩ : ∃ vw : Value,vw = .slice (some ⟨is,0,none⟩) 5 7 := ⟨_,rfl⟩
  obtain ⟨ct2,hct⟩ : ∃ c,clampI 1 9 ct = c := ⟨_,rfl⟩
  rw [hct] at hbad hgood ⊢
  rw [← hvw]
  have hvw1 : oneC vw = true ∧ cellsV vw = [vw] := by rw [hvw]; exact ⟨rfl,rfl⟩
  simp -implicitDefEqProofs (disch := first | assumption | omega) [wkB,rtZ,sbZ,dC,ev,fiZ,pkZ,putAt,bnd,slD,gZ0,gZ1,Mem.cell,Mem.row,coZ,crZ]
  refine SK_stS hs2 2 rfl (o := 0) (vs := [.int .i64 tr,.int .i64 wt,.int .i64 ct2,.int .i64 (R : Int),vw]) (cs' := [.int .i64 tr,.int .i64 wt,.int .i64 ct2,.int .i64 (R : Int),vw]) (by simp [wkB,rtZ,sbZ,dC,ev,fiZ,pkZ,putAt,bnd,slD,gZ0,gZ1,Mem.cell,Mem.row,coZ,crZ]) (by simp [wkB,rtZ,sbZ,dC,ev,fiZ,pkZ,putAt,bnd,slD,gZ0,gZ1,Mem.cell,Mem.row,coZ,crZ,hvw1]) (by simp) rfl (by rw [List.all_eq_true]; intro c hc; simp only [List.mem_cons,List.not_mem_nil,or_false] at hc; rcases hc with rfl | rfl | rfl | rfl | rfl <;> first | rfl | exact hvw1.1) rfl fun m3 hs3 _ => ?_
  have hs3 : Sep m (fun i => i < m.next) m3 [(some is,.own ((lW (.slice (some ⟨ia,0,none⟩) 1 2)).flatMap vC) 101),(some ia,.own armL 105),(some b1,.own [.int .i64 tr,.int .i64 wt,.int .i64 ct2,.int .i64 (R : Int),vw] 26)] := hs3
  have g3 := hs3.get 2 rfl
  have he1 := (h1.sep hs3).sl
  have hone : (es.flatMap En.cells).all oneC = true := by
    rw [List.all_eq_true]
    intro c hc
    obtain ⟨e,-,hc⟩ := List.mem_flatMap.1 hc
    simp only [En.cells,List.mem_cons,List.not_mem_nil,or_false] at hc
    rcases hc with rfl | rfl | rfl | rfl | rfl <;> rfl
  simp -implicitDefEqProofs (disch := first | assumption | omega) [wkB,rtZ,sbZ,dC,ev,fiZ,pkZ,putAt,bnd,slD,gZ0,gZ1,Mem.cell,Mem.row,coZ,crZ,g3]
  refine SK_nwS hs3 (k := es.length) (ys := es.flatMap En.cells) (by simp [wkB,rtZ,sbZ,dC,ev,fiZ,pkZ,putAt,bnd,slD,gZ0,gZ1,Mem.cell,Mem.row,coZ,crZ]) (by simp [wkB,rtZ,sbZ,dC,ev,fiZ,pkZ,putAt,bnd,slD,gZ0,gZ1,Mem.cell,Mem.row,coZ,crZ]; exact he1.elems) (by simp [wkB,rtZ,sbZ,dC,ev,fiZ,pkZ,putAt,bnd,slD,gZ0,gZ1,Mem.cell,Mem.row,coZ,crZ]; exact he1.lenV) hone (by omega) (by unfold maxLen; omega) (by rw [flat_len enl]) fun oe m4 hs4 hoe _ => ?_
  have g4 := hs4.get 3 rfl
  simp -implicitDefEqProofs (disch := first | assumption | omega) [wkB,rtZ,sbZ,dC,ev,fiZ,pkZ,putAt,bnd,slD,gZ0,gZ1,Mem.cell,Mem.row,coZ,crZ,g4]
  refine c_riOf hs4 hR1.1 hR1.2 fun m5 ir ib hs5 => ?_
  have g5 := hs5.get 5 rfl
  simp -implicitDefEqProofs (disch := first | assumption | omega) [wkB,rtZ,sbZ,dC,ev,fiZ,pkZ,putAt,bnd,slD,gZ0,gZ1,Mem.cell,Mem.row,coZ,crZ,g5]
  refine c_deOf hs5 (.inr (.inl rfl)) fun m6 id hs6 => ?_
  have g6 := hs6.get 6 rfl
  obtain ⟨x0,hx0⟩ : ∃ x0 : HoX,x0 = ⟨ir,ib,id,0,List.replicate R 0,none,none,none⟩ := ⟨_,rfl⟩
  obtain ⟨ve,hve⟩ : ∃ ve,ve = slV oe es.length 5 := ⟨_,rfl⟩
  have hve1 : oneC ve = true ∧ cellsV ve = [ve] := by rw [hve]; cases oe <;> exact ⟨rfl,rfl⟩
  rw [← hve]
  simp -implicitDefEqProofs (disch := first | assumption | omega) [wkB,rtZ,sbZ,dC,ev,fiZ,pkZ,putAt,bnd,slD,gZ0,gZ1,Mem.cell,Mem.row,coZ,crZ,g6,hve1.2]
  refine SK_bxS hs6 (cs := hoC (ho0 tr wt ct2 R vw ve (.slice none 0 0)) x0) (by simp [wkB,rtZ,sbZ,dC,ev,fiZ,pkZ,putAt,bnd,slD,gZ0,gZ1,Mem.cell,Mem.row,coZ,crZ,hoC,ho0,hx0,slV,errV,hvw1,hve1]) fun ih m7 hs7 _ _ => ?_
  have hok0 : ∀ vi,HoOk (ho0 tr wt ct2 R vw ve vi) x0 := fun vi => by rw [hx0]; exact ⟨fun _ => rfl,fun _ => rfl,RiOk.new hR1.1 hR1.2,⟨fun _ => rfl,by simp [ho0],fun x hx => by simp [ho0] at hx⟩,by simp [ho0]⟩
  -- the front of the list: the host,the entries,the images,the steps
  obtain ⟨cf,hcf⟩ : ∃ cf : List Value,cf = [.int .i64 tr,.int .i64 wt,.int .i64 ct2,.int .i64 (R : Int),vw] := ⟨_,rfl⟩
  have hs8 : Sep m (fun i => i < m.next) m7 (frO ih (ho0 tr wt ct2 R vw ve (.slice none 0 0)) x0 oe es none [] is ia b1 cf ++ imD []) := by
    have a1 := ((((hs7.non (.own ([] : List Value) 5)).non (.own ([] : List Value) 5)).non (.own ([] : List Value) 185)).non (.own (imC []) 28)).sel [4,2,3,6,7,5,1,8,0,9,10,11] (by decide)
    subst hx0 hcf
    exact a1
  clear hs7
  have hsl2 := (h2.sep (Sep.ofOld hp)).sl.sl.slen
  simp -implicitDefEqProofs (disch := first | assumption | omega) [wkB,rtZ,sbZ,dC,ev,fiZ,pkZ,putAt,bnd,slD,gZ0,gZ1,Mem.cell,Mem.row,coZ,crZ,hsl2]
  refine LoopW_of (fun k ts m' => ∃ (j : Nat) (oi : Option Nat) (iz : List (Option Nat × List UInt8)),j + k = ims.length ∧ Sep m (fun i => i < m.next) m' (frO ih (ho0 tr wt ct2 R vw ve (slV oi j 1)) x0 oe es oi iz is ia b1 cf ++ imD iz) ∧ iz.map (·.2) = (ims.map (·.2)).take j ∧ (∀ x ∈ iz,x.1 = none → x.2.length = 0) ∧ (oi = none → j = 0) ∧ ts 1 = v1 ∧ ts 2 = v2 ∧ ts 3 = .pointer (some ⟨b1,0,none⟩) ∧ ts 7 = .pointer (some ⟨ih,0,none⟩) ∧ ts 24 = v2 ∧ ts 25 = .int .i64 (ims.length : Int) ∧ ts 26 = .int .i64 (j : Int)) ims.length ?_ ?_
  · exact ⟨0,none,[],by omega,hs8,rfl,fun x hx => by simp at hx,fun _ => rfl,by simp [frA_at],by simp [frA_at],by simp,by simp,by simp,by simp,by simp⟩
  rintro k ts m8 K ⟨j,oi,iz,hj,h9,hiz,hizn,hoi,t1,t2,t3,t7,t24,t25,t26⟩ hK
  have hizl : iz.length = j := by
    have := congrArg List.length hiz
    rw [List.length_map,List.length_take,List.length_map] at this
    omega
  obtain ⟨vi,hvi⟩ : ∃ vi,vi = slV oi j 1 := ⟨_,rfl⟩
  have hvi1 : oneC vi = true ∧ cellsV vi = [vi] := by rw [hvi]; cases oi <;> exact ⟨rfl,rfl⟩
  have g9 := h9.get 0 rfl
  simp only [hoC,ho0] at g9
  by_cases hjl : j < ims.length
  · have hj8 : (j : Int) < (ims.length : Int) := by omega
    have hjw : IntKind.i64.wrap ((j : Int) + 1) = (j : Int) + 1 := w64 (by omega)
    obtain ⟨x,hx⟩ : ∃ x,ims[j] = x := ⟨_,rfl⟩
    have hxm : x ∈ ims := by rw [← hx]; exact List.getElem_mem hjl
    obtain ⟨bj,bp,L2,hvv2,hL2,hLl2,-,hLc2⟩ := (h2.sep h9).sl.sl.at hjl
    have hc2 := hLc2 0 (by omega)
    have hfm : (ims.flatMap fun x => [x.1])[j]? = some x.1 := by
      have := flat_at' (f := fun x : Value × List UInt8 => [x.1]) (k := 1) (fun _ => rfl) ims (List.getElem?_eq_getElem hjl) (i := 0) (by omega)
      rw [hx] at this
      simpa using this
    simp only [Nat.mul_one,Nat.add_zero] at hc2
    rw [hfm] at hc2
    have hidx2 : sidx 1 v2 (.int .i64 (j : Int)) = some (.pointer (some ⟨bj,bp + j,none⟩)) := by rw [hvv2]; simpa using sidx_at (b := bj) (o := bp) (n := ims.length) (c := 1) (j := j) (sz := 1) (k := .i64) hjl
    have hrx := (h2.im x hxm).sep h9
    have hxz := hsz x hxm
    simp -implicitDefEqProofs (disch := first | assumption | omega) [rc10_1,rc10_0,wkB,rtZ,sbZ,dC,ev,fiZ,pkZ,putAt,bnd,slD,gZ0,gZ1,Mem.cell,Mem.row,coZ,crZ,t7,t24,t25,t26,hj8,hidx2,hL2,hc2,getL1 hc2,g9]
    refine SK_nwS h9 (k := x.2.length) (ys := x.2.map byteV) (by simp [wkB,rtZ,sbZ,dC,ev,fiZ,pkZ,putAt,bnd,slD,gZ0,gZ1,Mem.cell,Mem.row,coZ,crZ]) (by simp [wkB,rtZ,sbZ,dC,ev,fiZ,pkZ,putAt,bnd,slD,gZ0,gZ1,Mem.cell,Mem.row,coZ,crZ]; exact hrx.sl.elems) (by simp [wkB,rtZ,sbZ,dC,ev,fiZ,pkZ,putAt,bnd,slD,gZ0,gZ1,Mem.cell,Mem.row,coZ,crZ]; exact hrx.sl.lenV) (byteV_oneC _) (by omega) (by unfold maxLen; omega) (by simp) fun ob mA hA hob _ => ?_
    have gA := hA.get 1 rfl
    simp only [hoC,ho0] at gA
    simp -implicitDefEqProofs (disch := first | assumption | omega) [wkB,rtZ,sbZ,dC,ev,fiZ,pkZ,putAt,bnd,slD,gZ0,gZ1,Mem.cell,Mem.row,coZ,crZ,t7,gA]
    refine SK_bslS hA (cs := [slV ob x.2.length 1]) (by simp [fiZ,pkZ,wkB,rtZ,sbZ,dC,ev,fiZ,pkZ,putAt,bnd,slD,gZ0,gZ1,Mem.cell,Mem.row,coZ,crZ]) rfl fun bB mB hB _ _ => ?_
    have gB := hB.get 2 rfl
    simp only [hoC,ho0] at gB
    have hOB := (hB.slO 0 (k := 1) (sz := 1) rfl rfl (fun e => by cases e)).read
    simp -implicitDefEqProofs (disch := first | assumption | omega) [wkB,rtZ,sbZ,dC,ev,fiZ,pkZ,putAt,bnd,slD,gZ0,gZ1,Mem.cell,Mem.row,coZ,crZ,t7,gB]
    refine SK_apS hB 10 (n := j) (k := 1) (ys := [slV ob x.2.length 1]) rfl (by simp [wkB,rtZ,sbZ,dC,ev,fiZ,pkZ,putAt,bnd,slD,gZ0,gZ1,Mem.cell,Mem.row,coZ,crZ]) (by rw [imC_len,hizl,Nat.mul_one]) hoi (by simp [wkB,rtZ,sbZ,dC,ev,fiZ,pkZ,putAt,bnd,slD,gZ0,gZ1,Mem.cell,Mem.row,coZ,crZ]; exact hOB.elems) (by simp [wkB,rtZ,sbZ,dC,ev,fiZ,pkZ,putAt,bnd,slD,gZ0,gZ1,Mem.cell,Mem.row,coZ,crZ]) (by simp [oneC_slV]) (by omega) (by unfold maxLen; omega) rfl fun oC mC hC hnC _ => ?_
    simp -implicitDefEqProofs (disch := first | assumption | omega) [wkB,rtZ,sbZ,dC,ev,fiZ,pkZ,putAt,bnd,slD,gZ0,gZ1,Mem.cell,Mem.row,coZ,crZ]
    refine SK_stS hC 2 rfl (o := 6) (vs := [slV oC (j + 1) 1]) (cs' := hoC (ho0 tr wt ct2 R vw ve (slV oC (j + 1) 1)) x0) (by simp [wkB,rtZ,sbZ,dC,ev,fiZ,pkZ,putAt,bnd,slD,gZ0,gZ1,Mem.cell,Mem.row,coZ,crZ]) (by simp [wkB,rtZ,sbZ,dC,ev,fiZ,pkZ,putAt,bnd,slD,gZ0,gZ1,Mem.cell,Mem.row,coZ,crZ]) (by simp [hoC]) rfl (by simp [oneC_slV]) (by simp [hoC,putAt,ho0]) fun mD hD _ => ?_
    have hD : Sep m (fun i => i < m.next) mD (byH ob x.2 :: (frO ih (ho0 tr wt ct2 R vw ve (slV oC (j + 1) 1)) x0 oe es oC (iz ++ [(ob,x.2)]) is ia b1 cf ++ imD iz)) := by
      have e1 : imC (iz ++ [(ob,x.2)]) = imC iz ++ [slV ob x.2.length 1] := by simp [imC]
      unfold frO
      rw [e1]
      exact hD.tl
    have hE := hD.perm (l' := frO ih (ho0 tr wt ct2 R vw ve (slV oC (j + 1) 1)) x0 oe es oC (iz ++ [(ob,x.2)]) is ia b1 cf ++ imD (iz ++ [(ob,x.2)])) (by
      have e2 : imD (iz ++ [(ob,x.2)]) = imD iz ++ [byH ob x.2] := by simp [imD]
      rw [e2,← List.append_assoc]
      exact List.perm_append_comm (l₁ := [byH ob x.2]))
    simp -implicitDefEqProofs (disch := first | assumption | omega) [wkB,rtZ,sbZ,dC,ev,fiZ,pkZ,putAt,bnd,slD,gZ0,gZ1,Mem.cell,Mem.row,coZ,crZ,t26,hjw]
    refine hK (k - 1) _ _ (by omega) ⟨j + 1,oC,iz ++ [(ob,x.2)],by omega,hE,?_,?_,(fun e => by have := hnC e; omega),by simp [t1],by simp [t2],by simp [t3],by simp [t7],by simp [t24],by simp [t25],by simp⟩
    · rw [List.take_succ_eq_append_getElem (by simpa using hjl),List.map_append,hiz]
      simp [hx]
    · intro y hy
      rcases List.mem_append.1 hy with hy | hy
      · exact hizn y hy
      · rw [List.mem_singleton] at hy
        subst hy
        exact hob
  · have hj2 : j = ims.length := by omega
    subst hj2
    have hj8 : ¬ (ims.length : Int) < (ims.length : Int) := by omega
    have hiz : iz.map (·.2) = ims.map (·.2) := by rw [hiz]; exact List.take_of_length_le (by simp)
    have hofr : OfR es (ims.map (·.2)) ve vi ((oe,.own (es.flatMap En.cells) 56) :: (oi,.own (imC iz) 28) :: imD iz) := ⟨oe,oi,iz,hve,by rw [hvi]; simp,rfl,hiz,hoe,fun e => by rw [List.length_map]; exact hoi e,hizn⟩
    rw [← hvi] at h9
    simp -implicitDefEqProofs (disch := first | assumption | omega) [rc10_1,rc10_3,wkB,rtZ,sbZ,dC,ev,fiZ,pkZ,putAt,bnd,slD,gZ0,gZ1,Mem.cell,Mem.row,coZ,crZ,t1,t2,t24,t25,t26,hj8]
    refine c_hRight h9.pt ((h1.sep h9).o) ⟨(h2.sl.sep h9).o,fun x hx => ((h2.im x hx).sep h9).o,h2.sz⟩ he (by omega) fun mA oA => ?_
    have hA := h9.old oA
    by_cases hr0 : rightF es (ims.map (·.2)) = 0
    · rw [hr0]
      have hS := Sep.selF (F := frO ih (ho0 tr wt ct2 R vw ve vi) x0 oe es oi iz is ia b1 cf) (T := imD iz) hA [9,10,0,1,2,3,4,5,6,7,8,11] (by decide)
      have hS : Sep m (fun i => i < m.next) mA ([(some is,.own ((lW (.slice (some ⟨ia,0,none⟩) 1 2)).flatMap vC) 101),(some ia,.own armL 105)] ++ (hoH ih (ho0 tr wt ct2 R vw ve vi) x0 ++ ((oe,.own (es.flatMap En.cells) 56) :: (oi,.own (imC iz) 28) :: (some b1,.own cf 26) :: imD iz))) := hS
      have gA := hA.get 11 rfl
      rw [hcf] at gA
      have hb := fun i hi => (hA.base i hi).trans (hbm i hi)
      simp -implicitDefEqProofs (disch := first | assumption | omega) [wkB,rtZ,sbZ,dC,ev,fiZ,pkZ,putAt,bnd,slD,gZ0,gZ1,Mem.cell,Mem.row,coZ,crZ,errV,rc10_2,t3,gA]
      rw [hvw]
      refine c_POfP (mb := mb) hS.fr hb (wake_ds hS.fr (List.mem_cons_self ..) (List.mem_cons_of_mem _ (List.mem_cons_self ..)) fun i hi => ?_) (lW_ok _) (fun hc => ⟨safe_of (by simp [lW]) hc,fun im => by show (0 : Int) ≤ 0; omega⟩) (fun hc mB HP ip im pls out oo hr hB hPR ho1 ho2 => ?_) (fun hn => absurd ⟨lW_chk _,fun _ _ _ => trivial⟩ hn)
      · rcases hi with rfl | rfl
        · exact ⟨_,List.mem_cons_self ..,rfl⟩
        · exact ⟨_,List.mem_cons_of_mem _ (List.mem_cons_self ..),rfl⟩
      obtain ⟨hRel,rfl⟩ := of_W hr
      have hB2 := hS.un hB
      have hB3 : Sep m (fun i => i < m.next) mB (hoH ih (ho0 tr wt ct2 R vw ve vi) x0 ++ (((oe,.own (es.flatMap En.cells) 56) :: (oi,.own (imC iz) 28) :: (some b1,.own cf 26) :: imD iz) ++ HP)) := by
        have := hB2.perm List.perm_append_comm
        rw [List.append_assoc] at this
        exact this
      obtain ⟨ob,rfl⟩ : ∃ ob,oo = some ob := by
        cases oo with
        | none => have := ho1 rfl; simp at this
        | some b => exact ⟨b,rfl⟩
      simp -implicitDefEqProofs (disch := first | assumption | omega) [wkB,rtZ,sbZ,dC,ev,fiZ,pkZ,putAt,bnd,slD,gZ0,gZ1,Mem.cell,Mem.row,coZ,crZ,t7]
      refine SK_stS hB3 0 rfl (o := 10) (vs := [.pointer (some ⟨ip,0,none⟩)]) (cs' := hoC { ho0 tr wt ct2 R vw ve vi with pl := .pointer (some ⟨ip,0,none⟩) } x0) (by simp [wkB,rtZ,sbZ,dC,ev,fiZ,pkZ,putAt,bnd,slD,gZ0,gZ1,Mem.cell,Mem.row,coZ,crZ]) (by simp [wkB,rtZ,sbZ,dC,ev,fiZ,pkZ,putAt,bnd,slD,gZ0,gZ1,Mem.cell,Mem.row,coZ,crZ]) (by simp [hoC]) rfl rfl (by simp [hoC,putAt,ho0]) fun mC hC _ => ?_
      have hC : Sep m (fun i => i < m.next) mC (hoH ih { ho0 tr wt ct2 R vw ve vi with pl := .pointer (some ⟨ip,0,none⟩) } x0 ++ (((oe,.own (es.flatMap En.cells) 56) :: (oi,.own (imC iz) 28) :: (some b1,.own cf 26) :: imD iz) ++ HP)) := hC
      have hrd := (hC.slm (ob := some ob) (cs := ([13] : List UInt8).map byteV) (k := 1) (sz := 1) (List.mem_append_right _ (List.mem_append_right _ (ho2 ob rfl))) rfl (fun e => by cases e)).read
      simp -implicitDefEqProofs (disch := first | assumption | omega) [wkB,rtZ,sbZ,dC,ev,fiZ,pkZ,putAt,bnd,slD,gZ0,gZ1,Mem.cell,Mem.row,coZ,crZ,t7]
      refine c_hSend (b := [13]) hC ⟨(hok0 vi).h,(hok0 vi).o,(hok0 vi).r,(hok0 vi).d,(hok0 vi).l⟩ hrd (by simp [ho0]) fun mD x1 hD hokD => ?_
      simp -implicitDefEqProofs (disch := first | assumption | omega) [wkB,rtZ,sbZ,dC,ev,fiZ,pkZ,putAt,bnd,slD,gZ0,gZ1,Mem.cell,Mem.row,coZ,crZ,t7]
      refine c_hWoken (mb := mb) hD hokD rfl (fun p hp => List.mem_append_right _ (List.mem_append_right _ hp)) (fun i hi => (hD.base i hi).trans (hbm i hi)) hPR (.inl hRel.st) (fun _ => ?_) (fun e => by rw [hRel.st] at e; cases e) (fun e => by rw [hRel.st] at e; cases e)
      simp -implicitDefEqProofs (disch := first | assumption | omega) [wkB,rtZ,sbZ,dC,ev,fiZ,pkZ,putAt,bnd,slD,gZ0,gZ1,Mem.cell,Mem.row,coZ,crZ,t7]
      refine hgood hr0 mD ih x1 HP R vw ve vi _ ip (.slice (some ⟨ia,0,none⟩) 1 2) pls ?_ hokD hR hofr hPR hRel
      refine hD.sub ((List.Sublist.refl _).append (List.Sublist.append ?_ (List.Sublist.refl _)))
      exact List.Sublist.cons_cons _ (List.Sublist.cons_cons _ (List.sublist_cons_self _ _))
    · obtain ⟨n,hn⟩ : ∃ n,rightF es (ims.map (·.2)) = n + 1 := ⟨_,(Nat.succ_pred_eq_of_ne_zero hr0).symm⟩
      have hb := hbad hr0
      rw [hn] at hb ⊢
      have hE1 : dEq (.iface []) (errV (n + 1)) .nilIface = some false := rfl
      obtain ⟨ev1,hev1⟩ : ∃ e,errV (n + 1) = e := ⟨_,rfl⟩
      rw [hev1] at hE1 ⊢
      simp -implicitDefEqProofs (disch := first | assumption | omega) [wkB,rtZ,sbZ,dC,ev,fiZ,pkZ,putAt,bnd,slD,gZ0,gZ1,Mem.cell,Mem.row,coZ,crZ,t7,hE1]
      rw [← hev1]
      have hA2 : Sep m (fun i => i < m.next) mA (hoH ih (ho0 tr wt ct2 R vw ve vi) x0 ++ ((oe,.own (es.flatMap En.cells) 56) :: (oi,.own (imC iz) 28) :: ([(some is,.own ((lW (.slice (some ⟨ia,0,none⟩) 1 2)).flatMap vC) 101),(some ia,.own armL 105),(some b1,.own cf 26)] ++ imD iz))) := hA
      refine c_hEnd hA2 (hok0 vi) fun mB hB hokB => ?_
      simp -implicitDefEqProofs (disch := first | assumption | omega) [wkB,rtZ,sbZ,dC,ev,fiZ,pkZ,putAt,bnd,slD,gZ0,gZ1,Mem.cell,Mem.row,coZ,crZ,t7]
      refine hb mB ih x0 [(some is,.own ((lW (.slice (some ⟨ia,0,none⟩) 1 2)).flatMap vC) 101),(some ia,.own armL 105),(some b1,.own cf 26)] R vw ve vi _ ?_ hokB hR hofr
      refine hB.perm (List.Perm.append_left _ (List.Perm.cons _ (List.Perm.cons _ ?_)))
      exact List.perm_append_comm
end Go.Proofs.YtccjlggpiliilaaGreatDoor.Ab

set_option linter.unusedVariables false
set_option linter.unusedSimpArgs false
namespace Go.Proofs.YtccjlggpiliilaaGreatDoor.Ab
open Go Go.RowKit
set_option maxHeartbeats 4000000
set_option maxRecDepth 100000
def hHearF (s : Ho) (c : UInt8) : Ho := { s with hd := s.hd ++ [c],d := dePutF s.d }
structure HoB (n : Nat) (s : Ho) : Prop where
  h : s.hd.length ≤ n
  d : s.d.n ≤ n
  o : s.out.length ≤ n
theorem de_n (d : De) : (dePutF d).n = d.n + 1 := by
  unfold dePutF
  split
  · split <;> rfl
  · rfl
theorem send_nil (s : Ho) : hSendF s [] = s := by simp [hSendF]
theorem w_hHear {w0 : World} {V : Nat → Prop} {m0 m : Mem} {T : HL} {ih : Nat} {s : Ho} {x : HoX} {c : UInt8} {Q : Value → Mem → Prop} (h : Sep m0 V m (hoH ih s x ++ T)) (hx : HoOk s x) (hB : HoB 1000000000 s)
    (hq : ∀ M x' fr,Sep m0 V M (hoH ih (hHearF s c) x' ++ T) → HoOk (hHearF s c) x' → fr 0 = .pointer (some ⟨ih,0,none⟩) → fr 1 = .int .u8 (c.toNat : Int) → fr 25 = .int .i64 s.ph → fr 39 = .bool (s.ph == 7) →
      condR Tryz.prog w0 (.bool (s.ph == 7)) .skip (.run [⟨(some 41),none,(.r (.bin .eql (.tmp 25) (.const (.int .i64 5)))),[]⟩,⟨(some 39),none,(.a (.tmp 41)),[]⟩]) (thenA (AbW Tryz.prog w0 rc38_0 (inBlockA 0 (bodyA [] Q))) (inBlockA 0 (bodyA [] Q))) fr M) :
    AbC Tryz.prog w0 38 [.pointer (some ⟨ih,0,none⟩),.int .u8 (c.toNat : Int)] m Q := by
  refine AbC_fn ok38 (by simp) ?_
  have g0 := h.get 0 rfl
  simp only [hoC] at g0
  have hBh := hB.h
  have hBd := hB.d
  simp -implicitDefEqProofs (disch := first | assumption | omega) [rc38,ro38,wkB,rtZ,sbZ,dC,ev,fiZ,pkZ,putAt,bnd,slD,gZ0,gZ1,Mem.cell,Mem.row,coZ,crZ,g0]
  refine SK_bslS h (cs := ([c] : List UInt8).map byteV) (by simp [fiZ,pkZ,wkB,rtZ,sbZ,dC,ev,fiZ,pkZ,putAt,bnd,slD,gZ0,gZ1,Mem.cell,Mem.row,coZ,crZ,byteV]) rfl fun b1 m1 h1 _ _ => ?_
  have hO1 := (h1.slO 0 (k := 1) (sz := 1) rfl rfl (fun e => by cases e)).read
  have g1 := h1.get 1 rfl
  simp only [hoC] at g1
  simp -implicitDefEqProofs (disch := first | assumption | omega) [wkB,rtZ,sbZ,dC,ev,fiZ,pkZ,putAt,bnd,slD,gZ0,gZ1,Mem.cell,Mem.row,coZ,crZ,g1]
  refine SK_apS h1 2 (n := s.hd.length) (k := 1) (ys := ([c] : List UInt8).map byteV) rfl (by simp [wkB,rtZ,sbZ,dC,ev,fiZ,pkZ,putAt,bnd,slD,gZ0,gZ1,Mem.cell,Mem.row,coZ,crZ]) (by simp) hx.h (by simp [wkB,rtZ,sbZ,dC,ev,fiZ,pkZ,putAt,bnd,slD,gZ0,gZ1,Mem.cell,Mem.row,coZ,crZ]; exact hO1.elems) (by simp [wkB,rtZ,sbZ,dC,ev,fiZ,pkZ,putAt,bnd,slD,gZ0,gZ1,Mem.cell,Mem.row,coZ,crZ]) (byteV_oneC _) (by omega) (by unfold maxLen; omega) rfl fun oh m2 h2 hoh _ => ?_
  rw [← List.map_append] at h2
  simp -implicitDefEqProofs (disch := first | assumption | omega) [wkB,rtZ,sbZ,dC,ev,fiZ,pkZ,putAt,bnd,slD,gZ0,gZ1,Mem.cell,Mem.row,coZ,crZ]
  obtain ⟨x1,hx1⟩ : ∃ x1 : HoX,x1 = { x with oh := oh } := ⟨_,rfl⟩
  obtain ⟨s1,hs1⟩ : ∃ s1 : Ho,s1 = { s with hd := s.hd ++ [c] } := ⟨_,rfl⟩
  refine SK_stS h2 1 rfl (o := 16) (vs := [slV oh (s.hd.length + 1) 1]) (cs' := hoC s1 x1) (by simp [wkB,rtZ,sbZ,dC,ev,fiZ,pkZ,putAt,bnd,slD,gZ0,gZ1,Mem.cell,Mem.row,coZ,crZ]) (by simp [wkB,rtZ,sbZ,dC,ev,fiZ,pkZ,putAt,bnd,slD,gZ0,gZ1,Mem.cell,Mem.row,coZ,crZ]) (by simp [hoC]) rfl (by simp [oneC_slV]) (by simp [hoC,putAt,hx1,hs1]) fun m3 h3 _ => ?_
  have h3 : Sep m0 V m3 (hoH ih s1 x1 ++ T) := by subst hx1 hs1; exact h3.tl
  have hok1 : HoOk s1 x1 := by subst hx1 hs1; exact ⟨fun e => by have := hoh e; omega,hx.o,hx.r,hx.d,hx.l⟩
  have g3 := h3.get 0 rfl
  have hid : x1.id = x.id := by rw [hx1]
  have hsd : s1.d = s.d := by rw [hs1]
  have hph : s1.ph = s.ph := by rw [hs1]
  simp only [hoC] at g3
  simp -implicitDefEqProofs (disch := first | assumption | omega) [wkB,rtZ,sbZ,dC,ev,fiZ,pkZ,putAt,bnd,slD,gZ0,gZ1,Mem.cell,Mem.row,coZ,crZ,g3]
  have h4 := Sep.selF (F := hoH ih s1 x1) (T := T) h3 [5,6,0,1,2,3,4] (by decide)
  have h4 : Sep m0 V m3 ([(some x1.id,deC x1.os s1.d),sgH x1.os s1.d] ++ ([(some ih,.own (hoC s1 x1) 83),byH x1.oh s1.hd,byH x1.oo s1.out,(some x1.ir,riC x1.ib s1.R x1.at_ s1.q.length s1.lost),byH (some x1.ib) x1.bs] ++ T)) := h4
  refine c_dePut h4.fr hok1.d (by rw [hsd]; omega) fun m5 os5 h5 hw5 => ?_
  have h6 := h4.un h5
  obtain ⟨x2,hx2⟩ : ∃ x2 : HoX,x2 = { x1 with os := os5 } := ⟨_,rfl⟩
  have h7 := Sep.selF (F := [(some x1.id,deC os5 (dePutF s1.d)),sgH os5 (dePutF s1.d),(some ih,.own (hoC s1 x1) 83),byH x1.oh s1.hd,byH x1.oo s1.out,(some x1.ir,riC x1.ib s1.R x1.at_ s1.q.length s1.lost),byH (some x1.ib) x1.bs]) (T := T) h6 [2,3,4,5,6,0,1] (by decide)
  have h7 : Sep m0 V m5 (hoH ih (hHearF s c) x2 ++ T) := by
    have e : hHearF s c = { s1 with d := dePutF s1.d } := by rw [hs1]; rfl
    rw [e]
    subst hx2
    exact h7
  have hok2 : HoOk (hHearF s c) x2 := by
    have e : hHearF s c = { s1 with d := dePutF s1.d } := by rw [hs1]; rfl
    rw [e]
    subst hx2
    exact ⟨hok1.h,hok1.o,hok1.r,hw5,hok1.l⟩
  have g7 := h7.get 0 rfl
  have e1 : (hHearF s c).ph = s.ph := rfl
  simp only [hoC,e1] at g7
  simp -implicitDefEqProofs (disch := first | assumption | omega) [wkB,rtZ,sbZ,dC,ev,fiZ,pkZ,putAt,bnd,slD,gZ0,gZ1,Mem.cell,Mem.row,coZ,crZ,g7]
  refine hq m5 x2 _ h7 hok2 (by simp [frA_at]) (by simp [frA_at]) (by simp) (by simp)
theorem c_hTake0 {w0 : World} {V : Nat → Prop} {mb m0 m : Mem} {E HP : HL} {ih ip : Nat} {s : Ho} {x : HoX} {c : UInt8} {av : Value} {pls : PlS} {w : Wk} {Q : Value → Mem → Prop} (h : Sep m0 V m (hoH ih s x ++ (E ++ HP))) (hx : HoOk s x) (hB : HoB 1000000000 s) (hp : s.ph = 0) (hb : BaseK mb m0) (hpl : s.pl = .pointer (some ⟨ip,0,none⟩)) (hR : PlR mb HP ip (lW av) pls) (hW : RelW pls w) (htr : pls.tr.length ≤ 1)
    (hq : ∀ M x' HP' pls',Sep m0 V M (hoH ih (hHearF s c) x' ++ (E ++ HP')) → HoOk (hHearF s c) x' → PlR mb HP' ip (lW av) pls' → RelW pls' (wkPut w c) → wkPut w c ≠ .well → wkPut w c ≠ .ill → Q (.tuple ⟨[]⟩) M)
    (hwell : wkPut w c = .well → ∀ M x' HP',Sep m0 V M (hoH ih (hHearF s c) x' ++ (E ++ HP')) → HoOk (hHearF s c) x' → AbC Tryz.prog w0 52 [.pointer (some ⟨ih,0,none⟩)] M fun _ M' => Q (.tuple ⟨[]⟩) M') (hill : w ≠ .ill) :
    AbC Tryz.prog w0 38 [.pointer (some ⟨ih,0,none⟩),.int .u8 (c.toNat : Int)] m Q := by
  refine w_hHear h hx hB fun M x' fr hM hok f0 f1 f25 f39 => ?_
  rw [hp] at f25 f39 ⊢
  have gM := hM.get 0 rfl
  have e1 : (hHearF s c).pl = .pointer (some ⟨ip,0,none⟩) := hpl
  simp only [hoC,e1] at gM
  have hM2 : Sep m0 V M (HP ++ (hoH ih (hHearF s c) x' ++ E)) := by
    have := hM.perm (l' := HP ++ (hoH ih (hHearF s c) x' ++ E)) (by rw [← List.append_assoc]; exact List.perm_append_comm)
    exact this
  simp -implicitDefEqProofs (disch := first | assumption | omega) [wkB,rtZ,sbZ,dC,ev,fiZ,pkZ,putAt,bnd,slD,gZ0,gZ1,Mem.cell,Mem.row,coZ,crZ,f25,f39,f0,f1,gM,rc38_0]
  refine c_PutP hM2.fr (fun i hi => (hM.base i hi).trans (hb i hi)) hR (lW_ok av) (safe_of (by simp [lW]) (lW_chk av)) (by omega) (fun ws h0 hws hov hbest => ?_) fun M3 HP3 pls3 out oo hT h3 hR3 ho1 ho2 => ?_
  · cases w with
    | run left cc a =>
      obtain ⟨hWt,-⟩ := hW
      obtain ⟨w',hw',-,hco⟩ := hWt.wat
      rw [hws] at hw'; cases hw'
      have hb1 := best_1 (b := c) hco
      have hb0 : bestC c ws = 0 := by rw [hb1.2] at hbest ⊢; split <;> rename_i hh <;> first | rfl | (rw [if_neg hh] at hbest; omega)
      refine ⟨by rw [hWt.at_]; omega,(⟨[],1,[],[⟨[61,62,32],[98]⟩],8,[99],0⟩,av),⟨[61,62,32],[98]⟩,by rw [hWt.at_]; rfl,by rw [hb0]; rfl,fun o => ?_⟩
      show (0 : Int) ≤ findN [98] (lW av) 0
      rw [lW_find]; simp
    | well => have : pls.st = 1 := hW; omega
    | ill => exact absurd rfl hill
  · obtain ⟨hR4,rfl⟩ := put_W hW hT
    have h4 := hM2.un h3
    have h5 : Sep m0 V M3 (hoH ih (hHearF s c) x' ++ (E ++ HP3)) := by
      have := h4.perm List.perm_append_comm
      rw [List.append_assoc] at this
      exact this
    have hrd : SlR M3 1 (slV oo ([] : List UInt8).length 1) (([] : List UInt8).map byteV) ([] : List UInt8).length := by
      cases oo with
      | none => exact ⟨rfl,.inl ⟨rfl,.inl rfl⟩⟩
      | some b => exact (h5.slm (ob := some b) (List.mem_append_right _ (List.mem_append_right _ (ho2 b rfl))) rfl (fun e => by cases e)).read
    simp -implicitDefEqProofs (disch := first | assumption | omega) [wkB,rtZ,sbZ,dC,ev,fiZ,pkZ,putAt,bnd,slD,gZ0,gZ1,Mem.cell,Mem.row,coZ,crZ,f0]
    refine c_hSend h5 hok hrd (by have := hB.o; simp only [hHearF,List.length_nil]; omega) fun M4 x4 h6 hok6 => ?_
    rw [send_nil] at h6 hok6
    simp -implicitDefEqProofs (disch := first | assumption | omega) [wkB,rtZ,sbZ,dC,ev,fiZ,pkZ,putAt,bnd,slD,gZ0,gZ1,Mem.cell,Mem.row,coZ,crZ,f0]
    have hst := hR4.st
    refine c_hWoken (mb := mb) (HP := HP3) h6 hok6 hpl (fun p hp => List.mem_append_right _ (List.mem_append_right _ hp)) (fun i hi => (h6.base i hi).trans (hb i hi)) hR3 ?_ (fun e => ?_) (fun e => ?_) fun e => ?_
    · rw [hst]
      cases wkPut w c <;> simp [Wk.st]
    · simp -implicitDefEqProofs (disch := first | assumption | omega) [wkB,rtZ,sbZ,dC,ev,fiZ,pkZ,putAt,bnd,slD,gZ0,gZ1,Mem.cell,Mem.row,coZ,crZ]
      refine hq M4 x4 HP3 pls3 h6 hok6 hR3 hR4 (fun he => ?_) fun he => ?_
      · rw [hst,he] at e; cases e
      · rw [hst,he] at e; cases e
    · have hw : wkPut w c = .well := by
        rw [hst] at e
        cases hh : wkPut w c with
        | run a b d => rw [hh] at e; cases e
        | well => rfl
        | ill => rw [hh] at e; cases e
      refine (hwell hw M4 x4 HP3 h6 hok6).mono fun u M5 hM5 => ?_
      simp -implicitDefEqProofs (disch := first | assumption | omega) [wkB,rtZ,sbZ,dC,ev,fiZ,pkZ,putAt,bnd,slD,gZ0,gZ1,Mem.cell,Mem.row,coZ,crZ]
      exact hM5
    · exfalso
      rw [hst] at e
      cases w with
      | run a b d =>
        simp only [wkPut] at e
        split at e <;> cases e
      | well => cases e
      | ill => exact hill rfl
end Go.Proofs.YtccjlggpiliilaaGreatDoor.Ab

set_option linter.unusedVariables false
set_option linter.unusedSimpArgs false
namespace Go.Proofs.YtccjlggpiliilaaGreatDoor.Ab
open Go Go.RowKit
set_option maxHeartbeats 4000000
set_option maxRecDepth 100000
theorem c_hTickG {w0 : World} {V : Nat → Prop} {m0 m : Mem} {T : HL} {ih : Nat} {s : Ho} {x : HoX} {Q : Value → Mem → Prop} (h : Sep m0 V m (hoH ih s x ++ T)) (hx : HoOk s x) (P : Option Nat → Nat → Mem → Prop)
    (h0 : ∀ M oo x',Sep m0 V M (byH oo s.q :: (hoH ih { s with q := [] } x' ++ T)) → HoOk { s with q := [] } x' → (oo = none → s.q.length = 0) → P oo 0 M)
    (hs : ∀ oo j M (hj : j < s.q.length),P oo j M → SlR M 1 (slV oo s.q.length 1) (s.q.map byteV) s.q.length ∧ AbC Tryz.prog w0 38 [.pointer (some ⟨ih,0,none⟩),.int .u8 (s.q[j].toNat : Int)] M fun _ M' => P oo (j + 1) M')
    (he : ∀ oo M fr,P oo s.q.length M → fr 0 = .pointer (some ⟨ih,0,none⟩) → AbW Tryz.prog w0 rc15_2 (bodyA [] Q) fr M) :
    AbC Tryz.prog w0 15 [.pointer (some ⟨ih,0,none⟩)] m Q := by
  refine AbC_fn ok15 (by simp) ?_
  have g0 := h.get 0 rfl
  simp only [hoC] at g0
  simp -implicitDefEqProofs (disch := first | assumption | omega) [rc15,ro15,wkB,rtZ,sbZ,dC,ev,fiZ,pkZ,putAt,bnd,slD,gZ0,gZ1,Mem.cell,Mem.row,coZ,crZ,g0]
  have hp := Sep.selF (F := hoH ih s x) (T := T) h [3,4,0,1,2,5,6] (by decide)
  have hp : Sep m0 V m ([(some x.ir,riC x.ib s.R x.at_ s.q.length s.lost),byH (some x.ib) x.bs] ++ ([(some ih,.own (hoC s x) 83),byH x.oh s.hd,byH x.oo s.out,(some x.id,deC x.os s.d),sgH x.os s.d] ++ T)) := hp
  refine c_riTake hp.fr hx.r fun m1 oo a' h1 hoo hO1 => ?_
  have h2 := hp.un h1
  obtain ⟨x1,hx1⟩ : ∃ x1 : HoX,x1 = { x with at_ := a' } := ⟨_,rfl⟩
  have h3 := Sep.selF (F := [byH oo s.q,(some x.ir,riC x.ib s.R a' 0 s.lost),byH (some x.ib) x.bs,(some ih,.own (hoC s x) 83),byH x.oh s.hd,byH x.oo s.out,(some x.id,deC x.os s.d),sgH x.os s.d]) (T := T) h2 [0,3,4,5,1,2,6,7] (by decide)
  have h3 : Sep m0 V m1 (byH oo s.q :: (hoH ih { s with q := [] } x1 ++ T)) := by subst hx1; exact h3
  have hok : HoOk { s with q := [] } x1 := by subst hx1; exact ⟨hx.h,hx.o,hO1,hx.d,hx.l⟩
  have hsl : slen (slV oo s.q.length 1) = some (.int .i64 (s.q.length : Int)) := (h3.slO 0 (k := s.q.length) (sz := 1) rfl (by simp) hoo).slen
  have hp0 := h0 m1 oo x1 h3 hok hoo
  have hql := hx.r.n
  have hqr := hx.r.r
  simp -implicitDefEqProofs (disch := first | assumption | omega) [wkB,rtZ,sbZ,dC,ev,fiZ,pkZ,putAt,bnd,slD,gZ0,gZ1,Mem.cell,Mem.row,coZ,crZ,hsl]
  refine LoopW_of (fun k ts m' => ∃ (j : Nat),j + k = s.q.length ∧ P oo j m' ∧ ts 0 = .pointer (some ⟨ih,0,none⟩) ∧ ts 8 = slV oo s.q.length 1 ∧ ts 9 = .int .i64 (s.q.length : Int) ∧ ts 10 = .int .i64 (j : Int)) s.q.length ?_ ?_
  · exact ⟨0,by omega,hp0,by simp [frA_at],by simp,by simp,by simp⟩
  rintro k ts m2 K ⟨j,hj,hP,t0,t8,t9,t10⟩ hK
  by_cases hjl : j < s.q.length
  · have hj8 : (j : Int) < (s.q.length : Int) := by omega
    have hjw : IntKind.i64.wrap ((j : Int) + 1) = (j : Int) + 1 := w64 (by omega)
    obtain ⟨hr,hC⟩ := hs oo j m2 hjl hP
    obtain ⟨bi,bo,L,hvv,hL,hLl,-,hLc⟩ := hr.at hjl
    have hc := hLc 0 (by omega)
    simp only [Nat.mul_one,Nat.add_zero,List.getElem?_map,List.getElem?_eq_getElem hjl,Option.map_some] at hc
    obtain ⟨c,hcU⟩ : ∃ x,s.q[j] = x := ⟨_,rfl⟩
    rw [hcU] at hc hC
    obtain ⟨hlt',hc'⟩ := List.getElem?_eq_some_iff.1 hc
    simp only [byteV] at hc hc'
    have hidx : sidx 1 (slV oo s.q.length 1) (.int .i64 (j : Int)) = some (.pointer (some ⟨bi,bo + j,none⟩)) := by rw [hvv]; simpa using sidx_at (b := bi) (o := bo) (n := s.q.length) (c := 1) (j := j) (sz := 1) (k := .i64) hjl
    simp -implicitDefEqProofs (disch := first | assumption | omega) [rc15_1,rc15_0,wkB,rtZ,sbZ,dC,ev,fiZ,pkZ,putAt,bnd,slD,gZ0,gZ1,Mem.cell,Mem.row,coZ,crZ,t0,t8,t9,t10,hj8,hidx,hL,hc,hc',getL1 hc]
    refine hC.mono fun u m3 hP3 => ?_
    simp -implicitDefEqProofs (disch := first | assumption | omega) [wkB,rtZ,sbZ,dC,ev,fiZ,pkZ,putAt,bnd,slD,gZ0,gZ1,Mem.cell,Mem.row,coZ,crZ,t10,hjw]
    exact hK (k - 1) _ _ (by omega) ⟨j + 1,by omega,hP3,by simp [t0],by simp [t8],by simp [t9],by simp⟩
  · have hj2 : j = s.q.length := by omega
    have hj8 : ¬ (j : Int) < (s.q.length : Int) := by omega
    rw [hj2] at hP
    simp -implicitDefEqProofs (disch := first | assumption | omega) [rc15_1,wkB,rtZ,sbZ,dC,ev,fiZ,pkZ,putAt,bnd,slD,gZ0,gZ1,Mem.cell,Mem.row,coZ,crZ,t9,t10,hj8]
    exact he oo m2 _ hP (by simp [t0])
theorem w_hTick7 {w0 : World} {V : Nat → Prop} {m0 m : Mem} {l : HL} {ih : Nat} {s : Ho} {x : HoX} {fr : Fr} {Q : Value → Mem → Prop} (h : Sep m0 V m l) (hm : (some ih,Ent.own (hoC s x) 83) ∈ l) (f0 : fr 0 = .pointer (some ⟨ih,0,none⟩)) (hp : s.ph = 7) (hq : Q (.tuple ⟨[]⟩) m) :
    AbW Tryz.prog w0 rc15_2 (bodyA [] Q) fr m := by
  have g0 := h.mem hm
  simp only [hoC,hp] at g0
  simp -implicitDefEqProofs (disch := first | assumption | omega) [rc15_2,wkB,rtZ,sbZ,dC,ev,fiZ,pkZ,putAt,bnd,slD,gZ0,gZ1,Mem.cell,Mem.row,coZ,crZ,f0,g0]
  exact hq
def hTick0F (s : Ho) (w : Wk) : Ho := if (wkTick w).1.st = 2 then hEndF (hSendF s (wkTick w).2) 11 else hSendF s (wkTick w).2
theorem wkTick_out (w : Wk) : (wkTick w).2.length ≤ 1 := by
  cases w with
  | run a b c =>
    simp only [wkTick]
    split
    · simp
    · split <;> simp
  | well => simp [wkTick]
  | ill => simp [wkTick]
theorem wkTick_ne {w : Wk} (h : w ≠ .well) : (wkTick w).1 ≠ .well := by
  cases w with
  | run a b c =>
    simp only [wkTick]
    split
    · simp
    · split <;> simp
  | well => exact absurd rfl h
  | ill => simp [wkTick]
theorem w_hTick0 {w0 : World} {V : Nat → Prop} {mb m0 m : Mem} {E HP : HL} {ih ip : Nat} {s : Ho} {x : HoX} {av : Value} {pls : PlS} {w : Wk} {fr : Fr} {Q : Value → Mem → Prop} (h : Sep m0 V m (hoH ih s x ++ (E ++ HP))) (hx : HoOk s x) (hB : HoB 1000000000 s) (hp : s.ph = 0) (hb : BaseK mb m0) (hpl : s.pl = .pointer (some ⟨ip,0,none⟩)) (hR : PlR mb HP ip (lW av) pls) (hW : RelW pls w) (hne : w ≠ .well) (f0 : fr 0 = .pointer (some ⟨ih,0,none⟩))
    (hq : ∀ M x' HP' pls',Sep m0 V M (hoH ih (hTick0F s w) x' ++ (E ++ HP')) → HoOk (hTick0F s w) x' → PlR mb HP' ip (lW av) pls' → RelW pls' (wkTick w).1 → Q (.tuple ⟨[]⟩) M) :
    AbW Tryz.prog w0 rc15_2 (bodyA [] Q) fr m := by
  have g0 := h.get 0 rfl
  simp only [hoC,hp,hpl] at g0
  have hM2 : Sep m0 V m (HP ++ (hoH ih s x ++ E)) := h.perm (l' := HP ++ (hoH ih s x ++ E)) (by rw [← List.append_assoc]; exact List.perm_append_comm)
  simp -implicitDefEqProofs (disch := first | assumption | omega) [rc15_2,wkB,rtZ,sbZ,dC,ev,fiZ,pkZ,putAt,bnd,slD,gZ0,gZ1,Mem.cell,Mem.row,coZ,crZ,f0,g0]
  refine c_TickP hM2.fr (fun i hi => (h.base i hi).trans (hb i hi)) hR (lW_ok av) (safe_of (by simp [lW]) (lW_chk av)) (fun h0 hw => ?_) fun M3 HP3 pls3 out oo hT h3 hR3 ho1 ho2 => ?_
  · cases w with
    | run left cc a =>
      obtain ⟨hWt,-⟩ := hW
      refine ⟨by rw [hWt.at_]; omega,(⟨[],1,[],[⟨[61,62,32],[98]⟩],8,[99],0⟩,av),by rw [hWt.at_]; rfl,?_⟩
      show (0 : Int) ≤ findN [99] (lW av) 0
      rw [lW_find]; simp
    | well => exact absurd rfl hne
    | ill => have : pls.st = 2 := hW; omega
  · obtain ⟨hR4,rfl⟩ := tick_W hW hT
    have hol := wkTick_out w
    have hwn := wkTick_ne hne
    unfold hTick0F at hq
    generalize wkTick w = wt at *
    have h4 := hM2.un h3
    have h5 : Sep m0 V M3 (hoH ih s x ++ (E ++ HP3)) := by
      have := h4.perm List.perm_append_comm
      rw [List.append_assoc] at this
      exact this
    have hrd : SlR M3 1 (slV oo wt.2.length 1) (wt.2.map byteV) wt.2.length := by
      cases oo with
      | none =>
        have h0 := ho1 rfl
        have : wt.2 = [] := List.length_eq_zero_iff.1 h0
        rw [this]
        exact ⟨rfl,.inl ⟨rfl,.inl rfl⟩⟩
      | some b => exact (h5.slm (ob := some b) (List.mem_append_right _ (List.mem_append_right _ (ho2 b rfl))) (by simp) (fun e => by cases e)).read
    have hBo := hB.o
    simp -implicitDefEqProofs (disch := first | assumption | omega) [wkB,rtZ,sbZ,dC,ev,fiZ,pkZ,putAt,bnd,slD,gZ0,gZ1,Mem.cell,Mem.row,coZ,crZ,f0]
    refine c_hSend h5 hx hrd (by omega) fun M4 x4 h6 hok6 => ?_
    simp -implicitDefEqProofs (disch := first | assumption | omega) [wkB,rtZ,sbZ,dC,ev,fiZ,pkZ,putAt,bnd,slD,gZ0,gZ1,Mem.cell,Mem.row,coZ,crZ,f0]
    have hst := hR4.st
    refine c_hWoken (mb := mb) (HP := HP3) h6 hok6 hpl (fun p hp => List.mem_append_right _ (List.mem_append_right _ hp)) (fun i hi => (h6.base i hi).trans (hb i hi)) hR3 ?_ (fun e => ?_) (fun e => ?_) fun e M5 h7 hok7 => ?_
    · rw [hst]
      cases wt.1 <;> simp [Wk.st]
    · simp -implicitDefEqProofs (disch := first | assumption | omega) [wkB,rtZ,sbZ,dC,ev,fiZ,pkZ,putAt,bnd,slD,gZ0,gZ1,Mem.cell,Mem.row,coZ,crZ]
      rw [if_neg (by rw [← hst,e]; omega)] at hq
      exact hq M4 x4 HP3 pls3 h6 hok6 hR3 hR4
    · exfalso
      rw [hst] at e
      cases hw : wt.1 with
      | run a b c => rw [hw] at e; cases e
      | well => exact hwn hw
      | ill => rw [hw] at e; cases e
    · simp -implicitDefEqProofs (disch := first | assumption | omega) [wkB,rtZ,sbZ,dC,ev,fiZ,pkZ,putAt,bnd,slD,gZ0,gZ1,Mem.cell,Mem.row,coZ,crZ]
      rw [if_pos (by rw [← hst,e])] at hq
      exact hq M5 x4 HP3 pls3 h7 hok7 hR3 hR4
end Go.Proofs.YtccjlggpiliilaaGreatDoor.Ab

set_option linter.unusedVariables false
set_option linter.unusedSimpArgs false
namespace Go.Proofs.YtccjlggpiliilaaGreatDoor.Ab
open Go Go.RowKit
set_option maxHeartbeats 4000000
set_option maxRecDepth 100000
theorem splitF_len (large : Bool) : ∀ (k : Nat) (d : List UInt8),∀ p ∈ splitF large k d,p.length = 128 ∨ p.length = 1024
  | 0,_,p,h => by simp [splitF] at h
  | _ + 1,[],p,h => by simp [splitF] at h
  | k + 1,c :: l,p,h => by
    simp only [splitF,List.mem_cons] at h
    rcases h with rfl | h
    · have := nS_or large (c :: l).length
      rw [List.length_append,List.length_take,List.length_replicate]
      omega
    · exact splitF_len large k _ p h
theorem splitF_num (large : Bool) : ∀ (k : Nat) (d : List UInt8),(splitF large k d).length ≤ d.length / 128 + 1
  | 0,_ => by simp [splitF]
  | _ + 1,[] => by simp [splitF]
  | k + 1,c :: l => by
    have ih := splitF_num large k ((c :: l).drop (nS large (c :: l).length))
    have := nS_or large (c :: l).length
    rw [List.length_drop] at ih
    by_cases he : (c :: l).length ≤ nS large (c :: l).length
    · have e : (c :: l).drop (nS large (c :: l).length) = [] := List.drop_of_length_le he
      simp only [splitF]
      rw [e,splitF_nil]
      simp
    · simp only [splitF,List.length_cons] at ih ⊢
      simp only [List.length_cons] at this he
      omega
theorem numL_snd (ps : List (List UInt8)) : (numL ps).map (·.2) = ps := by
  unfold numL
  apply List.ext_getElem?
  intro i
  rw [List.getElem?_map,List.getElem?_mapIdx]
  cases ps[i]? <;> rfl
def paX : List Nat → List (List UInt8) → List (Value × List UInt8)
  | v :: vs,p :: ps => (.slice (some ⟨v,0,none⟩) p.length 1,p) :: paX vs ps
  | _,_ => []
theorem paX_C : ∀ (vs : List Nat) (ps : List (List UInt8)),(paX vs ps).flatMap (fun x => [x.1]) = paC vs ps
  | [],_ => by simp [paX,paC]
  | _ :: _,[] => by simp [paX,paC]
  | v :: vs,p :: ps => by simp [paX,paC,paX_C vs ps]
theorem paX_S : ∀ {vs : List Nat} {ps : List (List UInt8)},vs.length = ps.length → (paX vs ps).map (·.2) = ps
  | [],[],_ => rfl
  | v :: vs,p :: ps,h => by simp [paX,paX_S (vs := vs) (ps := ps) (by simpa using h)]
theorem paX_len {vs : List Nat} {ps : List (List UInt8)} (h : vs.length = ps.length) : (paX vs ps).length = ps.length := by
  have := congrArg List.length (paX_S h)
  simpa using this
theorem paX_mem : ∀ {vs : List Nat} {ps : List (List UInt8)} {x : Value × List UInt8},x ∈ paX vs ps → ∃ v,x.1 = .slice (some ⟨v,0,none⟩) x.2.length 1 ∧ byH (some v) x.2 ∈ paD vs ps ∧ x.2 ∈ ps
  | [],_,x,h => by simp [paX] at h
  | _ :: _,[],x,h => by simp [paX] at h
  | v :: vs,p :: ps,x,h => by
    simp only [paX,List.mem_cons] at h
    rcases h with rfl | h
    · exact ⟨v,rfl,by simp [paD],by simp⟩
    · obtain ⟨w,h1,h2,h3⟩ := paX_mem h
      exact ⟨w,h1,by simp [paD,h2],by simp [h3]⟩
def biX : List Nat → List Bk → List Bi
  | v :: vs,b :: bs => (b.1,.slice (some ⟨v,0,none⟩) b.2.length 1,b.2) :: biX vs bs
  | _,_ => []
theorem biX_C : ∀ (vs : List Nat) (bs : List Bk),(biX vs bs).flatMap biC = bkC vs bs
  | [],_ => by simp [biX,bkC]
  | _ :: _,[] => by simp [biX,bkC]
  | v :: vs,b :: bs => by
    simp only [biX,bkC,List.flatMap_cons,biX_C vs bs]
    rfl
theorem biX_B : ∀ {vs : List Nat} {bs : List Bk},vs.length = bs.length → (biX vs bs).map biB = bs
  | [],[],_ => rfl
  | v :: vs,b :: bs,h => by
    simp only [biX,List.map_cons,biX_B (vs := vs) (bs := bs) (by simpa using h)]
    rfl
theorem biX_len {vs : List Nat} {bs : List Bk} (h : vs.length = bs.length) : (biX vs bs).length = bs.length := by
  have := congrArg List.length (biX_B h)
  simpa using this
theorem biX_mem : ∀ {vs : List Nat} {bs : List Bk} {x : Bi},x ∈ biX vs bs → ∃ v,x.2.1 = .slice (some ⟨v,0,none⟩) x.2.2.length 1 ∧ byH (some v) x.2.2 ∈ bkD vs bs ∧ biB x ∈ bs
  | [],_,x,h => by simp [biX] at h
  | _ :: _,[],x,h => by simp [biX] at h
  | v :: vs,b :: bs,x,h => by
    simp only [biX,List.mem_cons] at h
    rcases h with rfl | h
    · exact ⟨v,rfl,by simp [bkD],by simp [biB]⟩
    · obtain ⟨w,h1,h2,h3⟩ := biX_mem h
      exact ⟨w,h1,by simp [bkD,h2],by simp [h3]⟩
end Go.Proofs.YtccjlggpiliilaaGreatDoor.Ab

set_option linter.unusedVariables false
set_option linter.unusedSimpArgs false
namespace Go.Proofs.YtccjlggpiliilaaGreatDoor.Ab
open Go Go.RowKit
set_option maxHeartbeats 4000000
set_option maxRecDepth 100000
theorem perm_sw {A B C : HL} : (A ++ (B ++ C)).Perm (B ++ (A ++ C)) := by
  rw [← List.append_assoc,← List.append_assoc]
  exact List.perm_append_comm.append_right _
theorem Sep.cm {V : Nat → Prop} {m0 m : Mem} {F T : HL} {p : Option Nat × Ent} (h : Sep m0 V m (p :: (F ++ T))) : Sep m0 V m (F ++ (p :: T)) := h.perm (perm_sw (A := [p]))
theorem Sep.sw {V : Nat → Prop} {m0 m : Mem} {A F T : HL} (h : Sep m0 V m (A ++ (F ++ T))) : Sep m0 V m (F ++ (A ++ T)) := h.perm perm_sw
def hLoadF (s : Ho) (e : En) (ig : Nat) : Ho := { hSendF s (loadL (wayN e.w) e.a) with ph := 1,d := { s.d with md := 2 },gv := .iface 166 (.pointer (some ⟨ig,0,none⟩)) }
theorem c_hLoadP {w0 : World} {V : Nat → Prop} {m0 m : Mem} {T : HL} {ih j n b : Nat} {oi ob : Option Nat} {s : Ho} {x : HoX} {es : List En} {e : En} {iz : List (Option Nat × List UInt8)} {D : List UInt8} {Q : Value → Mem → Prop} (ht : Ten w0) (h : Sep m0 V m (hoH ih s x ++ T)) (hx : HoOk s x)
    (hve : s.ve = slV (some b) es.length 5) (hme : (some b,Ent.own (es.flatMap En.cells) 56) ∈ T) (hk : s.k = (j : Int)) (he : es[j]? = some e) (hw3 : e.w ≠ 3) (ha : -9223372036854775808 ≤ e.a ∧ e.a ≤ 9223372036854775807)
    (hvi : s.vi = slV oi n 1) (hmi : (oi,Ent.own (imC iz) 28) ∈ T) (hil : iz.length = n) (hoi : oi = none → n = 0) (hi : iz[j]? = some (ob,D)) (hmd : byH ob D ∈ T) (hod : ob = none → D.length = 0) (hD : D.length ≤ 1000000000000) (hB : s.out.length ≤ 1000000000)
    (hq : ∀ M x' HS ig,Sep m0 V M (hoH ih (hLoadF s e ig) x' ++ (HS ++ T)) → HoOk (hLoadF s e ig) x' → SnR HS ig (snOf s.tr s.wt (numL (splitL (e.w == 2) D)) (e.w != 0) true) → Q (.tuple ⟨[]⟩) M) :
    AbC Tryz.prog w0 52 [.pointer (some ⟨ih,0,none⟩)] m Q := by
  refine AbC_fn ok52 (by simp) ?_
  obtain ⟨hjl,-⟩ := List.getElem?_eq_some_iff.1 he
  have g0 := h.get 0 rfl
  simp only [hoC,hve,hk] at g0
  have hLt := flat_at enl es he
  have hfl : (es.flatMap En.cells).length = es.length * 5 := flat_len enl es
  obtain ⟨CE,hCE⟩ : ∃ CE,es.flatMap En.cells = CE := ⟨_,rfl⟩
  rw [hCE] at hLt hfl hme
  have gE := h.mem (List.mem_append_right (hoH ih s x) hme)
  have hle5 : j * 5 + 5 ≤ CE.length := by omega
  have hidx : sidx 5 (slV (some b) es.length 5) (.int .i64 (j : Int)) = some (.pointer (some ⟨b,j * 5,none⟩)) := by simpa [slV] using sidx_at (b := b) (o := 0) (n := es.length) (c := 5) (j := j) (sz := 5) (k := .i64) hjl
  have ex : En.cells e = [.string e.nm,.int .i64 e.a,.int .i64 e.s,.int .u32 e.p,.int .i64 e.w] := rfl
  simp -implicitDefEqProofs (disch := first | assumption | omega) [rc52,ro52,wkB,rtZ,sbZ,dC,ev,fiZ,pkZ,putAt,bnd,slD,gZ0,gZ1,Mem.cell,Mem.row,coZ,crZ,g0,gE,hidx,hLt,hle5]
  refine SK_alS h fun b2 m1 h1 _ _ => ?_
  have h1 := h1.cm
  have g1 := h1.get 0 rfl
  simp only [hoC,hve,hk] at g1
  have gE1 := h1.mem (List.mem_append_right (hoH ih s x) (List.mem_cons_of_mem _ hme))
  simp -implicitDefEqProofs (disch := first | assumption | omega) [wkB,rtZ,sbZ,dC,ev,fiZ,pkZ,putAt,bnd,slD,gZ0,gZ1,Mem.cell,Mem.row,coZ,crZ,g1,gE1,hidx,hLt,hle5]
  refine SK_stS h1 7 rfl (o := 0) (vs := En.cells e) (cs' := En.cells e) (by simp [wkB,rtZ,sbZ,dC,ev,fiZ,pkZ,putAt,bnd,slD,gZ0,gZ1,Mem.cell,Mem.row,coZ,crZ]) (by simp [wkB,rtZ,sbZ,dC,ev,fiZ,pkZ,putAt,bnd,slD,gZ0,gZ1,Mem.cell,Mem.row,coZ,crZ,ex]) (by simp) rfl (by simp [ex,oneC]) (by simp [putAt,ex]) fun m2 h2 _ => ?_
  have h2 : Sep m0 V m2 (hoH ih s x ++ ((some b2,.own (En.cells e) 56) :: T)) := h2
  have g2 := h2.get 7 rfl
  rw [ex] at g2
  simp -implicitDefEqProofs (disch := first | assumption | omega) [wkB,rtZ,sbZ,dC,ev,fiZ,pkZ,putAt,bnd,slD,gZ0,gZ1,Mem.cell,Mem.row,coZ,crZ,g2]
  refine c_Load h2.pt ht ha fun m3 o3 => ?_
  have h3 := h2.old o3
  obtain ⟨L,hL⟩ : ∃ L,loadL (wayN e.w) e.a = L := ⟨_,rfl⟩
  have hLl : L.length ≤ 100 := by
    have h1 := num16 ha
    obtain ⟨k,hk4,hkw,-⟩ := way_k e.w
    rw [← hL,hkw]
    have h2 : (wayL k).length ≤ 5 := by
      rcases (show k = 0 ∨ k = 1 ∨ k = 2 ∨ k = 3 by omega) with rfl | rfl | rfl | rfl <;> simp [wayL]
    simp [loadL,loadW]; omega
  rw [hL]
  simp -implicitDefEqProofs (disch := first | assumption | omega) [wkB,rtZ,sbZ,dC,ev,fiZ,pkZ,putAt,bnd,slD,gZ0,gZ1,Mem.cell,Mem.row,coZ,crZ]
  refine SK_s2bS h3 (s := L) (by simp [wkB,rtZ,sbZ,dC,ev,fiZ,pkZ,putAt,bnd,slD,gZ0,gZ1,Mem.cell,Mem.row,coZ,crZ]) (by omega) fun b4 m4 h4 _ _ => ?_
  have hrd4 := (h4.slO 0 (k := L.length) (sz := 1) rfl (by simp) (fun e => by cases e)).read
  simp -implicitDefEqProofs (disch := first | assumption | omega) [wkB,rtZ,sbZ,dC,ev,fiZ,pkZ,putAt,bnd,slD,gZ0,gZ1,Mem.cell,Mem.row,coZ,crZ]
  refine c_hSend h4.cm hx hrd4 (by omega) fun m5 x5 h5 hok5 => ?_
  have h5 : Sep m0 V m5 (hoH ih (hSendF s L) x5 ++ ((some b2,.own (En.cells e) 56) :: T)) := h5.sub ((List.Sublist.refl _).append (List.sublist_cons_self _ _))
  simp -implicitDefEqProofs (disch := first | assumption | omega) [wkB,rtZ,sbZ,dC,ev,fiZ,pkZ,putAt,bnd,slD,gZ0,gZ1,Mem.cell,Mem.row,coZ,crZ]
  obtain ⟨s6,hs6⟩ : ∃ s6 : Ho,s6 = { hSendF s L with ph := 1 } := ⟨_,rfl⟩
  refine SK_stS h5 0 rfl (o := 7) (vs := [.int .i64 1]) (cs' := hoC s6 x5) (by simp [wkB,rtZ,sbZ,dC,ev,fiZ,pkZ,putAt,bnd,slD,gZ0,gZ1,Mem.cell,Mem.row,coZ,crZ]) (by simp [wkB,rtZ,sbZ,dC,ev,fiZ,pkZ,putAt,bnd,slD,gZ0,gZ1,Mem.cell,Mem.row,coZ,crZ]) (by simp [hoC]) rfl rfl (by simp [hoC,putAt,hs6]) fun m6 h6 _ => ?_
  have h6 : Sep m0 V m6 (hoH ih s6 x5 ++ ((some b2,.own (En.cells e) 56) :: T)) := by subst hs6; exact h6
  have hok6 : HoOk s6 x5 := by subst hs6; exact ⟨hok5.h,hok5.o,hok5.r,hok5.d,hok5.l⟩
  have g6 := h6.get 0 rfl
  simp only [hoC] at g6
  simp -implicitDefEqProofs (disch := first | assumption | omega) [wkB,rtZ,sbZ,dC,ev,fiZ,pkZ,putAt,bnd,slD,gZ0,gZ1,Mem.cell,Mem.row,coZ,crZ,g6]
  refine c_deSw (d := s6.d) (os := x5.os) h6 5 rfl (.inr (.inr rfl)) fun m7 h7 => ?_
  obtain ⟨s7,hs7⟩ : ∃ s7 : Ho,s7 = { s6 with d := { s6.d with md := 2 } } := ⟨_,rfl⟩
  have h7 : Sep m0 V m7 (hoH ih s7 x5 ++ ((some b2,.own (En.cells e) 56) :: T)) := by subst hs7; exact h7
  have hok7 : HoOk s7 x5 := by subst hs7; exact ⟨hok6.h,hok6.o,hok6.r,⟨hok6.d.o,hok6.d.l,hok6.d.s⟩,hok6.l⟩
  have e7 : s7.tr = s.tr ∧ s7.wt = s.wt ∧ s7.vi = slV oi n 1 ∧ s7.k = (j : Int) := by rw [hs7,hs6]; exact ⟨rfl,rfl,hvi,hk⟩
  have g7 := h7.get 7 rfl
  rw [ex] at g7
  have g70 := h7.get 0 rfl
  simp only [hoC,e7.1,e7.2.1,e7.2.2.1,e7.2.2.2] at g70
  have hw3' : (e.w == 3) = false := by simp [hw3]
  obtain ⟨bi,rfl⟩ : ∃ bi,oi = some bi := by
    cases oi with
    | none =>
      have := hoi rfl
      obtain ⟨h',-⟩ := List.getElem?_eq_some_iff.1 hi
      omega
    | some b => exact ⟨b,rfl⟩
  have hjn : j < n := by obtain ⟨h',-⟩ := List.getElem?_eq_some_iff.1 hi; omega
  have gI := h7.mem (List.mem_append_right (hoH ih s7 x5) (List.mem_cons_of_mem _ hmi))
  have hci : (imC iz)[j]? = some (slV ob D.length 1) := by unfold imC; rw [List.getElem?_map,hi]; rfl
  have hidi : sidx 1 (slV (some bi) n 1) (.int .i64 (j : Int)) = some (.pointer (some ⟨bi,j,none⟩)) := by simpa [slV] using sidx_at (b := bi) (o := 0) (n := n) (c := 1) (j := j) (sz := 1) (k := .i64) hjn
  simp -implicitDefEqProofs (disch := first | assumption | omega) [wkB,rtZ,sbZ,dC,ev,fiZ,pkZ,putAt,bnd,slD,gZ0,gZ1,Mem.cell,Mem.row,coZ,crZ,g7,hw3',rc52_0,g70,hidi,gI,hci,getL1 hci]
  have hrD : RdV (fun i => i < m7.next) m7 1 (slV ob D.length 1) (D.map byteV) D.length := h7.rdm (List.mem_append_right (hoH ih s7 x5) (List.mem_cons_of_mem _ hmd)) (by simp) hod (fun i hi => by subst hi; exact (h7.ok _ (List.mem_append_right _ (List.mem_cons_of_mem _ hmd)) i rfl).2.1)
  obtain ⟨lg,hlg⟩ : ∃ lg,(e.w == 2) = lg := ⟨_,rfl⟩
  rw [hlg] at hq
  simp only [hlg]
  refine c_bSplit h7 hrD hD fun oo vs m8 h8 o8 hvs hoo => ?_
  have h8 := h8.sw
  obtain ⟨PL,hPL⟩ : ∃ PL,splitL lg D = PL := ⟨_,rfl⟩
  have hnl : PL.length ≤ D.length / 128 + 1 := by rw [← hPL]; exact splitF_num lg D.length D
  have hpl : ∀ p ∈ PL,p.length = 128 ∨ p.length = 1024 := by rw [← hPL]; exact splitF_len lg D.length D
  rw [hPL] at h8 hvs hoo hq ⊢
  have g8 := h8.get 0 rfl
  simp only [hoC,e7.1,e7.2.1,e7.2.2.1,e7.2.2.2] at g8
  have mb2 : (some b2,Ent.own (En.cells e) 56) ∈ hoH ih s7 x5 ++ (((oo,.own (paC vs PL) 28) :: paD vs PL) ++ ((some b2,.own (En.cells e) 56) :: T)) := List.mem_append_right _ (List.mem_append_right _ (List.mem_cons_self ..))
  have g82 := h8.mem mb2
  rw [ex] at g82
  simp -implicitDefEqProofs (disch := first | assumption | omega) [wkB,rtZ,sbZ,dC,ev,fiZ,pkZ,putAt,bnd,slD,gZ0,gZ1,Mem.cell,Mem.row,coZ,crZ,g8,g82]
  have hS := paX_S hvs
  have hL2 := paX_len hvs
  have hr8 : RdV (fun j => j < m8.next) m8 1 (slV oo PL.length 1) (paC vs PL) PL.length := h8.rdm (ob := oo) (List.mem_append_right _ (List.mem_append_left _ (List.mem_cons_self ..))) (paC_len hvs) hoo (fun j hj => by subst hj; exact (h8.ok _ (List.mem_append_right _ (List.mem_append_left _ (List.mem_cons_self ..))) j rfl).2.1)
  rw [← paX_C,← hL2] at hr8
  rw [← hL2]
  refine c_bNumber h8 hr8 (fun y hy => ?_) (by rw [hL2]; omega) fun ob2 vs2 m9 h9 o9 hvs2 hob2 => ?_
  · obtain ⟨w,w1,w2,w3⟩ := paX_mem hy
    have hw := hpl _ w3
    have hmem : byH (some w) y.2 ∈ hoH ih s7 x5 ++ (((oo,.own (paC vs PL) 28) :: paD vs PL) ++ ((some b2,.own (En.cells e) 56) :: T)) := List.mem_append_right _ (List.mem_append_left _ (List.mem_cons_of_mem _ w2))
    rw [w1]
    exact ⟨h8.rdm (ob := some w) hmem (by simp) (fun e => by cases e) (fun j hj => by cases hj; exact (h8.ok _ hmem w rfl).2.1),by omega,by omega⟩
  rw [hS] at h9
  rw [hL2] at hvs2 hob2 ⊢
  obtain ⟨N,hN⟩ : ∃ N,numL PL = N := ⟨_,rfl⟩
  have hNl : N.length = PL.length := by rw [← hN,numL_len]
  have hNf : ∀ x ∈ N,x.2.length = 128 ∨ x.2.length = 1024 := fun x hx => by
    have : x.2 ∈ N.map (·.2) := List.mem_map_of_mem hx
    rw [← hN,numL_snd] at this
    exact hpl _ this
  rw [hN] at h9 hq
  rw [← hNl] at hvs2 hob2 ⊢
  have h9 := h9.sw
  have g9 := h9.get 0 rfl
  simp only [hoC,e7.1,e7.2.1,e7.2.2.1,e7.2.2.2] at g9
  have mb9 : (some b2,Ent.own (En.cells e) 56) ∈ hoH ih s7 x5 ++ (((ob2,.own (bkC vs2 N) 221) :: bkD vs2 N) ++ (((oo,.own (paC vs PL) 28) :: paD vs PL) ++ ((some b2,.own (En.cells e) 56) :: T))) := List.mem_append_right _ (List.mem_append_right _ (List.mem_append_right _ (List.mem_cons_self ..)))
  have g92 := h9.mem mb9
  rw [ex] at g92
  simp -implicitDefEqProofs (disch := first | assumption | omega) [wkB,rtZ,sbZ,dC,ev,fiZ,pkZ,putAt,bnd,slD,gZ0,gZ1,Mem.cell,Mem.row,coZ,crZ,g9,g92]
  have hBB := biX_B hvs2
  have hBL := biX_len hvs2
  have hr9 : RdV (fun j => j < m9.next) m9 2 (slV ob2 N.length 2) (bkC vs2 N) N.length := h9.rdm (ob := ob2) (List.mem_append_right _ (List.mem_append_left _ (List.mem_cons_self ..))) (bkC_len hvs2) hob2 (fun j hj => by subst hj; exact (h9.ok _ (List.mem_append_right _ (List.mem_append_left _ (List.mem_cons_self ..))) j rfl).2.1)
  rw [← biX_C] at hr9
  have hr9 : RdV (fun j => j < m9.next) m9 2 (slV ob2 N.length 2) ((biX vs2 N).flatMap biC) (biX vs2 N).length := by rw [hBL]; exact hr9
  have hbi9 : BiOk m9 (biX vs2 N) := ⟨fun y hy => by
    obtain ⟨w,w1,w2,w3⟩ := biX_mem hy
    have hw : y.2.2.length = 128 ∨ y.2.2.length = 1024 := hNf _ w3
    have hmem : byH (some w) y.2.2 ∈ hoH ih s7 x5 ++ (((ob2,.own (bkC vs2 N) 221) :: bkD vs2 N) ++ (((oo,.own (paC vs PL) 28) :: paD vs PL) ++ ((some b2,.own (En.cells e) 56) :: T))) := List.mem_append_right _ (List.mem_append_left _ (List.mem_cons_of_mem _ w2))
    rw [w1]
    exact ⟨h9.rdm (ob := some w) hmem (by simp) (fun e => by cases e) (fun j hj => by cases hj; exact (h9.ok _ hmem w rfl).2.1),hw⟩⟩
  refine c_sOf (xs := biX vs2 N) h9 hr9 hbi9 (by rw [hBL,hNl]; omega) fun ig HS mA hA oA hRA => ?_
  rw [hBB] at hRA
  have hA := hA.sw
  simp -implicitDefEqProofs (disch := first | assumption | omega) [wkB,rtZ,sbZ,dC,ev,fiZ,pkZ,putAt,bnd,slD,gZ0,gZ1,Mem.cell,Mem.row,coZ,crZ]
  refine SK_stS hA 0 rfl (o := 11) (vs := [.iface 166 (.pointer (some ⟨ig,0,none⟩))]) (cs' := hoC (hLoadF s e ig) x5) (by simp [wkB,rtZ,sbZ,dC,ev,fiZ,pkZ,putAt,bnd,slD,gZ0,gZ1,Mem.cell,Mem.row,coZ,crZ]) (by simp [wkB,rtZ,sbZ,dC,ev,fiZ,pkZ,putAt,bnd,slD,gZ0,gZ1,Mem.cell,Mem.row,coZ,crZ]) (by simp [hoC]) rfl rfl (by simp [hoC,putAt,hLoadF,hs7,hs6,hSendF,hL]) fun mB hB _ => ?_
  have hB : Sep m0 V mB (hoH ih (hLoadF s e ig) x5 ++ (HS ++ (((ob2,.own (bkC vs2 N) 221) :: bkD vs2 N) ++ (((oo,.own (paC vs PL) 28) :: paD vs PL) ++ ((some b2,.own (En.cells e) 56) :: T))))) := by
    have e1 : hoH ih (hLoadF s e ig) x5 = (some ih,.own (hoC (hLoadF s e ig) x5) 83) :: (hoH ih s7 x5).tail := by
      rw [hs7,hs6,← hL]; rfl
    rw [e1]
    exact hB
  have hokB : HoOk (hLoadF s e ig) x5 := by
    have := hok7
    rw [hs7,hs6,← hL] at this
    exact ⟨this.h,this.o,this.r,this.d,this.l⟩
  simp -implicitDefEqProofs (disch := first | assumption | omega) [wkB,rtZ,sbZ,dC,ev,fiZ,pkZ,putAt,bnd,slD,gZ0,gZ1,Mem.cell,Mem.row,coZ,crZ]
  refine hq mB x5 HS ig (hB.sub ?_) hokB ?_
  · refine (List.Sublist.refl _).append ((List.Sublist.refl _).append ?_)
    exact ((List.sublist_append_of_sublist_right (List.sublist_append_of_sublist_right (List.sublist_cons_self _ _))))
  · have e2 : ((if (e.w != 0) = true then true else false) : Bool) = (e.w != 0) := by cases (e.w != 0) <;> rfl
    exact hRA
end Go.Proofs.YtccjlggpiliilaaGreatDoor.Ab

set_option linter.unusedVariables false
set_option linter.unusedSimpArgs false
namespace Go.Proofs.YtccjlggpiliilaaGreatDoor.Ab
open Go Go.RowKit
set_option maxHeartbeats 4000000
set_option maxRecDepth 100000
theorem m_sTick : methOf Tryz.prog 166 "Tick" = some 166 := by kernel_rfl
theorem m_sDone : methOf Tryz.prog 166 "Done" = some 167 := by kernel_rfl
theorem c_hSentNo {w0 : World} {V : Nat → Prop} {m0 m : Mem} {T HS : HL} {ih ig : Nat} {s : Ho} {x : HoX} {sn : Sn} {Q : Value → Mem → Prop} (h : Sep m0 V m (hoH ih s x ++ T)) (hg : s.gv = .iface 166 (.pointer (some ⟨ig,0,none⟩))) (hR : SnR HS ig sn) (hm : ∀ p ∈ HS,p ∈ T) (hp : sn.phase ≠ 3)
    (hq : Q (.tuple ⟨[]⟩) m) : AbC Tryz.prog w0 40 [.pointer (some ⟨ih,0,none⟩)] m Q := by
  refine AbC_fn ok40 (by simp) ?_
  have g0 := h.get 0 rfl
  simp only [hoC,hg] at g0
  simp -implicitDefEqProofs (disch := first | assumption | omega) [rc40,ro40,wkB,rtZ,sbZ,dC,ev,fiZ,pkZ,putAt,bnd,slD,gZ0,gZ1,Mem.cell,Mem.row,coZ,crZ,g0]
  simp only [SK,dC,ev,upd,m_sDone,List.map_nil]
  refine c_sDone h hR (fun p hp => List.mem_append_right _ (hm p hp)) ?_
  have e3 : decide (sn.phase = 3) = false := by simp [hp]
  rw [e3]
  simp -implicitDefEqProofs (disch := first | assumption | omega) [wkB,rtZ,sbZ,dC,ev,fiZ,pkZ,putAt,bnd,slD,gZ0,gZ1,Mem.cell,Mem.row,coZ,crZ]
  exact hq
theorem w_hTick1 {w0 : World} {V : Nat → Prop} {m0 m : Mem} {T HS : HL} {ih ig : Nat} {s : Ho} {x : HoX} {sn : Sn} {fr : Fr} {Q : Value → Mem → Prop} (h : Sep m0 V m (hoH ih s x ++ (HS ++ T))) (hx : HoOk s x) (hp : s.ph = 1) (hg : s.gv = .iface 166 (.pointer (some ⟨ig,0,none⟩))) (hR : SnR HS ig sn) (hno : (sTickF sn).1.phase ≠ 3) (hB : s.out.length + (sTickF sn).2.length ≤ 140737488355328) (f0 : fr 0 = .pointer (some ⟨ih,0,none⟩))
    (hq : ∀ M x' HS',Sep m0 V M (hoH ih (hSendF s (sTickF sn).2) x' ++ (HS' ++ T)) → HoOk (hSendF s (sTickF sn).2) x' → SnR HS' ig (sTickF sn).1 → Q (.tuple ⟨[]⟩) M) :
    AbW Tryz.prog w0 rc15_2 (bodyA [] Q) fr m := by
  have g0 := h.get 0 rfl
  simp only [hoC,hp,hg] at g0
  simp -implicitDefEqProofs (disch := first | assumption | omega) [rc15_2,wkB,rtZ,sbZ,dC,ev,fiZ,pkZ,putAt,bnd,slD,gZ0,gZ1,Mem.cell,Mem.row,coZ,crZ,f0,g0]
  simp only [SK,dC,ev,upd,m_sTick,List.map_nil]
  have h1 : Sep m0 V m (HS ++ (hoH ih s x ++ T)) := h.sw
  refine c_sTick h1.fr hR fun oo HS2 m2 h2 hR2 hoo => ?_
  have h3 := h1.un h2
  obtain ⟨q,hqe⟩ : ∃ q,sTickF sn = q := ⟨_,rfl⟩
  rw [hqe] at h3 hR2 hoo hno hB hq ⊢
  have h4 : Sep m0 V m2 (hoH ih s x ++ ((byH oo q.2 :: HS2) ++ T)) := h3.sw
  have hrd := (h4.slm (ob := oo) (k := q.2.length) (sz := 1) (List.mem_append_right _ (List.mem_append_left _ (List.mem_cons_self ..))) (by simp) hoo).read
  simp -implicitDefEqProofs (disch := first | assumption | omega) [wkB,rtZ,sbZ,dC,ev,fiZ,pkZ,putAt,bnd,slD,gZ0,gZ1,Mem.cell,Mem.row,coZ,crZ,f0]
  refine c_hSend h4 hx hrd hB fun m5 x5 h5 hok5 => ?_
  simp -implicitDefEqProofs (disch := first | assumption | omega) [wkB,rtZ,sbZ,dC,ev,fiZ,pkZ,putAt,bnd,slD,gZ0,gZ1,Mem.cell,Mem.row,coZ,crZ,f0]
  refine c_hSentNo h5 hg hR2 (fun p hp => List.mem_append_left _ (List.mem_cons_of_mem _ hp)) hno ?_
  simp -implicitDefEqProofs (disch := first | assumption | omega) [wkB,rtZ,sbZ,dC,ev,fiZ,pkZ,putAt,bnd,slD,gZ0,gZ1,Mem.cell,Mem.row,coZ,crZ]
  refine hq m5 x5 HS2 (h5.sub ((List.Sublist.refl _).append ?_)) hok5 hR2
  exact (List.sublist_cons_self _ _).append (List.Sublist.refl _)
end Go.Proofs.YtccjlggpiliilaaGreatDoor.Ab

set_option linter.unusedVariables false
set_option linter.unusedSimpArgs false
namespace Go.Proofs.YtccjlggpiliilaaGreatDoor.Ab
open Go Go.RowKit
set_option maxHeartbeats 4000000
set_option maxRecDepth 100000
theorem put_field {es : List En} {idx f : Nat} (h : idx < es.length) (hf : f < 5) {v : Value} {e' : En} (he : putAt es[idx].cells f [v] = e'.cells) : putAt (es.flatMap En.cells) (idx * 5 + f) [v] = (es.set idx e').flatMap En.cells := by
  induction es generalizing idx with
  | nil => simp at h
  | cons a l ih =>
    cases idx with
    | zero =>
      simp only [List.getElem_cons_zero] at he
      rw [List.set_cons_zero,List.flatMap_cons,List.flatMap_cons,← he,Nat.zero_mul,Nat.zero_add]
      unfold putAt
      have hl : a.cells.length = 5 := rfl
      rw [List.take_append_of_le_length (by omega),List.drop_append_of_le_length (by simp; omega)]
      simp
    | succ i =>
      simp only [List.length_cons] at h
      simp only [List.getElem_cons_succ] at he
      rw [List.set_cons_succ,List.flatMap_cons,List.flatMap_cons,← ih (by omega) he,show (i + 1) * 5 + f = a.cells.length + (i * 5 + f) by rw [enl]; omega,putAt_pre]
def ImO (D : HL) (x : Value × List UInt8) : Prop := ∃ (i : Nat) (bs : List UInt8),x.1 = .slice (some ⟨i,0,none⟩) x.2.length 1 ∧ (some i,Ent.own (bs.map byteV) 5) ∈ D ∧ x.2 = bs.take x.2.length ∧ x.2.length ≤ bs.length
theorem head_rd {V X : Nat → Prop} {m0 m : Mem} {l : HL} (h : Sep m0 V m l) {i z : Nat} {bs : List UInt8} (hm : (some i,Ent.own (bs.map byteV) 5) ∈ l) (hz : z ≤ bs.length) (hX : X i) : RdV X m 1 (.slice (some ⟨i,0,none⟩) z 1) ((bs.take z).map byteV) z := by
  have g := h.mem hm
  have hlt := (h.ok _ hm i rfl).2.1
  refine ⟨⟨by rw [List.length_map,List.length_take]; omega,.inr ⟨i,0,bs.map byteV,rfl,by rw [g]; rfl,by rw [List.length_map]; omega,?_⟩⟩,fun b hb => by cases hb; exact ⟨hlt,hX⟩⟩
  rw [List.drop_zero,Nat.mul_one,List.map_take]
theorem ImO.rd {V X : Nat → Prop} {m0 m : Mem} {l D : HL} {x : Value × List UInt8} (hx : ImO D x) (h : Sep m0 V m l) (hD : ∀ p ∈ D,p ∈ l) (hX : ∀ i,ids D i → X i) : RdV X m 1 x.1 (x.2.map byteV) x.2.length := by
  obtain ⟨i,bs,e1,e2,e3,e4⟩ := hx
  have := head_rd h (hD _ e2) e4 (hX i ⟨_,e2,rfl⟩)
  rw [← e3,← e1] at this
  exact this
theorem ImO.mono {D D' : HL} {x : Value × List UInt8} (hx : ImO D x) (h : ∀ p ∈ D,p ∈ D') : ImO D' x := by
  obtain ⟨i,bs,e1,e2,e3,e4⟩ := hx
  exact ⟨i,bs,e1,h _ e2,e3,e4⟩
structure MkR (xs : List Ac) (j : Nat) (es : List En) (ims : List (Value × List UInt8)) : Prop where
  len : es.length = (entsA xs).length
  iml : ims.length = j
  at_ : ∀ (k : Nat) (e : En) (x : Value × List UInt8),es[k]? = some e → ims[k]? = some x → e.s = (x.2.length : Int) ∧ e.p = ((prN x.2 : Nat) : Int) ∧ 1 ≤ x.2.length ∧ x.2.length ≤ 600
  eq : ∀ (k : Nat) (e : En),es[k]? = some e → ∃ e0,(entsA xs)[k]? = some e0 ∧ e = { e0 with p := e.p }
theorem entsA_at {xs : List Ac} {k : Nat} {e : En} (h : (entsA xs)[k]? = some e) : k < xs.length ∧ k < 8 ∧ ∃ x,xs[k]? = some x ∧ e = entA x k := by
  unfold entsA entsJ at h
  rw [List.getElem?_map] at h
  obtain ⟨i,hi,rfl⟩ := Option.map_eq_some_iff.1 h
  obtain ⟨hlt,rfl⟩ := List.getElem?_eq_some_iff.1 hi
  simp only [List.length_range] at hlt
  simp only [List.getElem_range]
  have hx : k < xs.length := by omega
  exact ⟨hx,by omega,xs[k],List.getElem?_eq_getElem hx,by simp [List.getD,List.getElem?_eq_getElem hx]⟩
theorem c_lMake {w0 : World} {m : Mem} {v1 v2 : Value} {xs : List Ac} {b : List UInt8} {Q : Value → Mem → Prop} (hp : Part L0 m) (hv : SlR m 5 v1 (xs.flatMap Ac.cells) xs.length) (hvb : ∀ b,blk v1 = some b → b < m.next) (hx : ∀ x ∈ xs,AcOk m x) (hn : xs.length ≤ 9223372036854775807)
    (hr : RdV (fun i => i < m.next) m 1 v2 (b.map byteV) b.length) (hb : b.length ≤ 9223372036854775807)
    (hq : ∀ M es ims oe oi D,Sep m (fun i => i < m.next) M ((oe,.own (es.flatMap En.cells) 56) :: (oi,.own (ims.flatMap fun x => [x.1]) 28) :: D) → MkR xs (entsA xs).length es ims → (oe = none → es.length = 0) → (oi = none → ims.length = 0) → (∀ x ∈ ims,ImO D x) → Q (.tuple ⟨[slV oe es.length 5,slV oi ims.length 1]⟩) M) :
    AbC Tryz.prog w0 8 [v1,v2] m Q := by
  refine AbC_fn ok8 (by simp) ?_
  simp -implicitDefEqProofs (disch := first | assumption | omega) [rc8,ro8,wkB,rtZ,sbZ,dC,ev,fiZ,pkZ,putAt,bnd,slD,gZ0,gZ1,Mem.cell,Mem.row,coZ,crZ]
  refine c_Entries hv hvb hx hn fun m1 oe o1 hso hoe => ?_
  have h1 : Sep m (fun i => i < m.next) m1 [(oe,.own ((entsA xs).flatMap En.cells) 56)] := (Sep.ofOld hp).new o1 fun i hi => by
    subst hi
    exact ⟨hoe i rfl,hso.2.2,hso.2.1⟩
  have hoen : oe = none → (entsA xs).length = 0 := fun e => by subst e; exact hso.2
  obtain ⟨n,hnn⟩ : ∃ n,(entsA xs).length = n := ⟨_,rfl⟩
  have hn8 : n ≤ 8 := by rw [← hnn]; unfold entsA; rw [entsJ_len]; omega
  rw [hnn] at hoen
  have hsl : slen (slV oe n 5) = some (.int .i64 (n : Int)) := by
    have := hso.slen
    rw [hnn] at this
    exact this
  rw [hnn]
  simp -implicitDefEqProofs (disch := first | assumption | omega) [wkB,rtZ,sbZ,dC,ev,fiZ,pkZ,putAt,bnd,slD,gZ0,gZ1,Mem.cell,Mem.row,coZ,crZ,hsl]
  refine LoopW_of (fun k ts m' => ∃ (j : Nat) (es : List En) (ims : List (Value × List UInt8)) (oi : Option Nat) (D : HL),j + k = n ∧ Sep m (fun i => i < m.next) m' ((oe,.own (es.flatMap En.cells) 56) :: (oi,.own (ims.flatMap fun x => [x.1]) 28) :: D) ∧ MkR xs j es ims ∧ (oi = none → ims.length = 0) ∧ (∀ x ∈ ims,ImO D x) ∧ ts 1 = v2 ∧ ts 6 = slV oe n 5 ∧ ts 7 = slV oi ims.length 1 ∧ ts 13 = .int .i64 (n : Int) ∧ ts 14 = .int .i64 (j : Int)) n ?_ ?_
  · refine ⟨0,entsA xs,[],none,[],by omega,?_,⟨rfl,rfl,fun k e x _ hh => by simp at hh,fun k e he => ⟨e,he,rfl⟩⟩,fun _ => rfl,fun x hx => by simp at hx,by simp [frA_at],by simp,by simp [slV],by simp,by simp⟩
    exact (h1.non (.own [] 28)).perm (List.Perm.swap _ _ _)
  rintro k ts m2 K ⟨j,es,ims,oi,D,hj,h2,hM,hoi,hI,t1,t6,t7,t13,t14⟩ hK
  have hel : es.length = n := by rw [hM.len,hnn]
  have hil := hM.iml
  by_cases hjl : j < n
  · have hj8 : (j : Int) < (n : Int) := by omega
    have hjw : IntKind.i64.wrap ((j : Int) + 1) = (j : Int) + 1 := w64 (by omega)
    have hje : j < es.length := by omega
    obtain ⟨ob,rfl⟩ : ∃ ob,oe = some ob := by
      cases oe with
      | none => have := hoen rfl; omega
      | some b => exact ⟨b,rfl⟩
    obtain ⟨e,hee⟩ : ∃ e,es[j] = e := ⟨_,rfl⟩
    have heq : es[j]? = some e := by rw [List.getElem?_eq_getElem hje,hee]
    obtain ⟨e0,he0,hee0⟩ := hM.eq j e heq
    obtain ⟨hjx,-,x0,hx0,rfl⟩ := entsA_at he0
    have hxs := (hx x0 (List.mem_of_getElem? hx0)).1
    obtain ⟨z,hz⟩ : ∃ z : Nat,e.s = (z : Int) ∧ 1 ≤ z ∧ z ≤ 600 := by
      have h5 := hxs.2.1
      rw [hee0]
      simp only [entA]
      exact ⟨(1 + x0.s % 600).toNat,by omega,by omega,by omega⟩
    obtain ⟨hz,hz1,hz6⟩ := hz
    have hidx : sidx 5 (slV (some ob) n 5) (.int .i64 (j : Int)) = some (.pointer (some ⟨ob,j * 5,none⟩)) := by simpa [slV] using sidx_at (b := ob) (o := 0) (n := n) (c := 5) (j := j) (sz := 5) (k := .i64) hjl
    have g2 := h2.get 0 rfl
    have hc2 : (es.flatMap En.cells)[j * 5 + 2]? = some (.int .i64 (z : Int)) := by
      have := flat_at' enl es heq (i := 2) (by omega)
      rw [this,← hz]; rfl
    simp -implicitDefEqProofs (disch := first | assumption | omega) [rc8_1,rc8_0,wkB,rtZ,sbZ,dC,ev,fiZ,pkZ,putAt,bnd,slD,gZ0,gZ1,Mem.cell,Mem.row,coZ,crZ,t1,t6,t13,t14,hj8,hidx,g2,hc2,getL1 hc2]
    refine c_Data h2.pt (hr.sep h2) hb fun d xd m3 o3 hd1 hd2 hd3 hdl => ?_
    have h3 := h2.new (ob := some xd) o3 fun i hi => by cases hi; exact ⟨hd1,hd2,hd3⟩
    have hdl : d.length = 1024 := hdl
    have g3 := h3.get 1 rfl
    have hsl3 : slW 1 (.slice (some ⟨xd,0,none⟩) d.length 1) none (some (.int .i64 (z : Int))) = some (.slice (some ⟨xd,0,none⟩) z 1) := by
      have hz1024 : z ≤ d.length := by omega
      simp [slW,dR,ev,bnd,slD,hz1024]
    have gx := h3.get 0 rfl
    have hd0 : 0 < d.length := by omega
    obtain ⟨c,hc⟩ : ∃ c,d[0] = c := ⟨_,rfl⟩
    have hcx : (d.map byteV)[0]? = some (.int .u8 (c.toNat : Int)) := by rw [List.getElem?_map,List.getElem?_eq_getElem hd0,hc]; rfl
    have hid0 : sidx 1 (.slice (some ⟨xd,0,none⟩) z 1) (.int .i64 0) = some (.pointer (some ⟨xd,0,none⟩)) := by simpa using sidx_at (b := xd) (o := 0) (n := z) (c := 1) (j := 0) (sz := 1) (k := .i64) (by omega)
    obtain ⟨c2,hc2'⟩ := u8any (j : Int)
    obtain ⟨c3,hc3⟩ := u8any ((c.toNat : Int) + (c2.toNat : Int))
    simp -implicitDefEqProofs (disch := first | assumption | omega) [wkB,rtZ,sbZ,dC,ev,fiZ,pkZ,putAt,bnd,slD,gZ0,gZ1,Mem.cell,Mem.row,coZ,crZ,t14,g3,hc2,getL1 hc2,hsl3,hid0,gx,hcx,getL1 hcx,hc2',hc3]
    refine SK_stS h3 0 rfl (o := 0) (vs := [byteV c3]) (cs' := (d.set 0 c3).map byteV) (by simp [wkB,rtZ,sbZ,dC,ev,fiZ,pkZ,putAt,bnd,slD,gZ0,gZ1,Mem.cell,Mem.row,coZ,crZ]) (by simp [wkB,rtZ,sbZ,dC,ev,fiZ,pkZ,putAt,bnd,slD,gZ0,gZ1,Mem.cell,Mem.row,coZ,crZ,byteV,hc3]) (by simp; omega) rfl rfl (by
      rw [List.map_set,List.set_eq_take_append_cons_drop,if_pos (by simp; omega)]
      simp [putAt]) fun m4 h4 _ => ?_
    obtain ⟨d2,hd2e⟩ : ∃ d2,d.set 0 c3 = d2 := ⟨_,rfl⟩
    have hd2l : d2.length = 1024 := by rw [← hd2e,List.length_set,hdl]
    rw [hd2e] at h4
    have h4 : Sep m (fun i => i < m.next) m4 ((some xd,.own (d2.map byteV) 5) :: (some ob,.own (es.flatMap En.cells) 56) :: (oi,.own (ims.flatMap fun x => [x.1]) 28) :: D) := h4
    have hbl : (d2.take z).length = z := by rw [List.length_take]; omega
    have hrd : RdV (fun _ => True) m4 1 (.slice (some ⟨xd,0,none⟩) z 1) ((d2.take z).map byteV) (d2.take z).length := by rw [hbl]; exact head_rd h4 (List.mem_cons_self ..) (by omega) trivial
    simp -implicitDefEqProofs (disch := first | assumption | omega) [wkB,rtZ,sbZ,dC,ev,fiZ,pkZ,putAt,bnd,slD,gZ0,gZ1,Mem.cell,Mem.row,coZ,crZ,t6,t7,t14]
    refine c_Print h4.pt hrd (by omega) fun m5 o5 => ?_
    have h5 := h4.old o5
    obtain ⟨e',he'⟩ : ∃ e' : En,e' = { e with p := ((prN (d2.take z) : Nat) : Int) } := ⟨_,rfl⟩
    have hfl : (es.flatMap En.cells).length = n * 5 := by rw [flat_len enl,hel]
    simp -implicitDefEqProofs (disch := first | assumption | omega) [wkB,rtZ,sbZ,dC,ev,fiZ,pkZ,putAt,bnd,slD,gZ0,gZ1,Mem.cell,Mem.row,coZ,crZ,t6,t14,hidx]
    refine SK_stS h5 1 rfl (o := j * 5 + 3) (vs := [.int .u32 ((prN (d2.take z) : Nat) : Int)]) (cs' := (es.set j e').flatMap En.cells) (by simp [wkB,rtZ,sbZ,dC,ev,fiZ,pkZ,putAt,bnd,slD,gZ0,gZ1,Mem.cell,Mem.row,coZ,crZ]) (by simp [wkB,rtZ,sbZ,dC,ev,fiZ,pkZ,putAt,bnd,slD,gZ0,gZ1,Mem.cell,Mem.row,coZ,crZ]) (by omega) rfl rfl (put_field hje (by omega) (by rw [hee,he']; rfl)) fun m6 h6 _ => ?_
    simp -implicitDefEqProofs (disch := first | assumption | omega) [wkB,rtZ,sbZ,dC,ev,fiZ,pkZ,putAt,bnd,slD,gZ0,gZ1,Mem.cell,Mem.row,coZ,crZ,t7]
    refine SK_bslS h6 (cs := [.slice (some ⟨xd,0,none⟩) z 1]) (by simp [fiZ,pkZ,wkB,rtZ,sbZ,dC,ev,fiZ,pkZ,putAt,bnd,slD,gZ0,gZ1,Mem.cell,Mem.row,coZ,crZ]) rfl fun b7 m7 h7 _ _ => ?_
    have hO7 := (h7.slO 0 (k := 1) (sz := 1) rfl rfl (fun e => by cases e)).read
    have hfi : (ims.flatMap fun x => [x.1]).length = ims.length * 1 := flat_len (f := fun x : Value × List UInt8 => [x.1]) (k := 1) (fun _ => rfl) ims
    simp -implicitDefEqProofs (disch := first | assumption | omega) [wkB,rtZ,sbZ,dC,ev,fiZ,pkZ,putAt,bnd,slD,gZ0,gZ1,Mem.cell,Mem.row,coZ,crZ,t7]
    refine SK_apS h7 3 (n := ims.length) (k := 1) (ys := [.slice (some ⟨xd,0,none⟩) z 1]) rfl (by simp [wkB,rtZ,sbZ,dC,ev,fiZ,pkZ,putAt,bnd,slD,gZ0,gZ1,Mem.cell,Mem.row,coZ,crZ,t7]) hfi hoi (by simp [wkB,rtZ,sbZ,dC,ev,fiZ,pkZ,putAt,bnd,slD,gZ0,gZ1,Mem.cell,Mem.row,coZ,crZ]; exact hO7.elems) (by simp [wkB,rtZ,sbZ,dC,ev,fiZ,pkZ,putAt,bnd,slD,gZ0,gZ1,Mem.cell,Mem.row,coZ,crZ]) rfl (by omega) (by unfold maxLen; omega) rfl fun oi2 m8 h8 hoi2 _ => ?_
    obtain ⟨xn,hxn⟩ : ∃ xn : Value × List UInt8,xn = (.slice (some ⟨xd,0,none⟩) z 1,d2.take z) := ⟨_,rfl⟩
    have h9 : Sep m (fun i => i < m.next) m8 ((some ob,.own ((es.set j e').flatMap En.cells) 56) :: (oi2,.own ((ims ++ [xn]).flatMap fun x => [x.1]) 28) :: (some xd,.own (d2.map byteV) 5) :: D) := by
      have e1 : ((ims ++ [xn]).flatMap fun x => [x.1]) = (ims.flatMap fun x => [x.1]) ++ [.slice (some ⟨xd,0,none⟩) z 1] := by rw [List.flatMap_append,hxn]; rfl
      rw [e1]
      have := Sep.selF (F := [(some xd,.own (d2.map byteV) 5),(some ob,.own ((es.set j e').flatMap En.cells) 56),(oi2,.own ((ims.flatMap fun x => [x.1]) ++ [.slice (some ⟨xd,0,none⟩) z 1]) 28)]) (T := D) h8.tl [1,2,0] (by decide)
      exact this
    have hsome : oi2 = none → (ims ++ [xn]).length = 0 := fun e => by have := hoi2 e; omega
    have hl2 : (ims ++ [xn]).length = ims.length + 1 := by simp
    simp -implicitDefEqProofs (disch := first | assumption | omega) [wkB,rtZ,sbZ,dC,ev,fiZ,pkZ,putAt,bnd,slD,gZ0,gZ1,Mem.cell,Mem.row,coZ,crZ,t14,hjw]
    refine hK (k - 1) _ _ (by omega) ⟨j + 1,es.set j e',ims ++ [xn],oi2,_,by omega,h9,⟨by rw [List.length_set]; exact hM.len,by rw [hl2,hil],fun k1 e1 x1 h1' h2' => ?_,fun k1 e1 h1' => ?_⟩,hsome,fun x hx => ?_,by simp [t1],by simp [t6],by simp,by simp [t13],by simp⟩
    · rcases Nat.lt_trichotomy k1 j with hk | hk | hk
      · rw [List.getElem?_set_ne (by omega)] at h1'
        rw [List.getElem?_append_left (by omega)] at h2'
        exact hM.at_ k1 e1 x1 h1' h2'
      · subst hk
        rw [List.getElem?_set_self hje] at h1'
        rw [List.getElem?_append_right (by omega),hil,Nat.sub_self] at h2'
        simp only [Option.some.injEq,gZ0] at h1' h2'
        subst h1' h2'
        rw [hxn,he']
        simp only
        rw [hbl]
        exact ⟨hz,by simp,hz1,hz6⟩
      · rw [List.getElem?_eq_none (by rw [hl2]; omega)] at h2'
        cases h2'
    · by_cases hk : k1 = j
      · subst hk
        rw [List.getElem?_set_self hje] at h1'
        simp only [Option.some.injEq] at h1'
        subst h1'
        refine ⟨_,he0,?_⟩
        rw [he']
        conv => lhs; rw [hee0]
      · rw [List.getElem?_set_ne (fun hh => hk hh.symm)] at h1'
        exact hM.eq k1 e1 h1'
    · rcases List.mem_append.1 hx with hx | hx
      · exact (hI x hx).mono fun p hp => List.mem_cons_of_mem _ hp
      · rw [List.mem_singleton] at hx
        subst hx
        refine ⟨xd,d2,by rw [hxn]; simp only; rw [hbl],List.mem_cons_self ..,by rw [hxn]; simp only; rw [hbl],by rw [hxn]; simp only; omega⟩
  · have hj2 : j = n := by omega
    subst hj2
    have hj8 : ¬ (j : Int) < (j : Int) := by omega
    simp -implicitDefEqProofs (disch := first | assumption | omega) [rc8_1,rc8_2,wkB,rtZ,sbZ,dC,ev,fiZ,pkZ,putAt,bnd,slD,gZ0,gZ1,Mem.cell,Mem.row,coZ,crZ,t6,t7,t13,t14,hj8]
    have := hq m2 es ims oe oi D h2 (by rw [hnn]; exact hM) (fun e => by rw [hel]; exact hoen e) hoi hI
    rw [hel] at this
    exact this
end Go.Proofs.YtccjlggpiliilaaGreatDoor.Ab

set_option linter.unusedVariables false
set_option linter.unusedSimpArgs false
namespace Go.Proofs.YtccjlggpiliilaaGreatDoor.Ab
open Go Go.RowKit
set_option maxHeartbeats 4000000
set_option maxRecDepth 100000
theorem entA_i {x : Ac} {k : Nat} (hk : k < 8) (hr : x.rng) : EnI (entA x k) := by
  obtain ⟨h1,h2,h3,h4⟩ := hr
  refine ⟨?_,?_⟩
  · show (nameL x.ns ++ [lastB k]).length ≤ _
    unfold nameL
    simp; omega
  · simp only [entA]
    split <;> omega
theorem mkR_i {xs : List Ac} {j : Nat} {es : List En} {ims : List (Value × List UInt8)} (h : MkR xs j es ims) (hx : ∀ x ∈ xs,x.rng) : ∀ e ∈ es,EnI e := fun e he => by
  obtain ⟨k,hk,rfl⟩ := List.mem_iff_getElem.1 he
  obtain ⟨e0,h0,he0⟩ := h.eq k _ (List.getElem?_eq_getElem hk)
  obtain ⟨h1,h2,x,h3,rfl⟩ := entsA_at h0
  have := entA_i h2 (hx x (List.mem_of_getElem? h3))
  rw [he0]
  exact this
theorem mkR_right {xs : List Ac} {es : List En} {ims : List (Value × List UInt8)} (h : MkR xs (entsA xs).length es ims) : rightF es (ims.map (·.2)) = (chkV es).2 := by
  unfold rightF
  split
  · rfl
  · rename_i h0
    have h0 : (chkV es).2 = 0 := by omega
    rw [h0,if_neg (by rw [List.length_map,h.iml,h.len]; omega),if_pos ?_]
    rw [List.all_eq_true]
    intro k hk
    have hk := List.mem_range.1 hk
    have hk2 : k < ims.length := by rw [h.iml,← h.len]; exact hk
    have h1 := h.at_ k _ _ (List.getElem?_eq_getElem hk) (List.getElem?_eq_getElem hk2)
    have e1 : es.getD k ⟨⟨#[]⟩,0,0,0,0⟩ = es[k] := by simp [List.getD,List.getElem?_eq_getElem hk]
    have e2 : (ims.map (·.2)).getD k [] = ims[k].2 := by simp [List.getD,List.getElem?_eq_getElem hk2]
    rw [e1,e2]
    simp [okIm,h1.1,h1.2.1]
theorem nids {V : Nat → Prop} {m0 m : Mem} {A B : HL} (h : Sep m0 V m (A ++ B)) {i : Nat} (hB : ids B i) : ¬ ids A i := fun hA => (h.fr.il hA).2 (.inr hB)
def wkJ (j : Nat) : Wk := (([13,10,61,62,32] : List UInt8).take j).foldl wkPut (.run 8 0 [])
theorem wkJ_no : ∀ j : Fin 5,∃ a,wkJ j.val = .run 8 0 a := by
  have h : ∀ j : Fin 5,(match wkJ j.val with | .run 8 0 _ => true | _ => false) = true := by decide +kernel
  intro j
  have := h j
  split at this
  · exact ⟨_,by assumption⟩
  · cases this
theorem wkJ_5 : wkJ 5 = .well := by
  have h : (match wkJ 5 with | .well => true | _ => false) = true := by decide +kernel
  split at h
  · assumption
  · cases h
def hearJ (s : Ho) (j : Nat) : Ho := (([13,10,61,62,32] : List UInt8).take j).foldl hHearF s
theorem hear_pl (s : Ho) (l : List UInt8) : (l.foldl hHearF s).pl = s.pl ∧ (l.foldl hHearF s).ph = s.ph ∧ (l.foldl hHearF s).q = s.q ∧ (l.foldl hHearF s).ve = s.ve ∧ (l.foldl hHearF s).vi = s.vi ∧ (l.foldl hHearF s).k = s.k ∧ (l.foldl hHearF s).out = s.out ∧ (l.foldl hHearF s).tr = s.tr ∧ (l.foldl hHearF s).wt = s.wt ∧ (l.foldl hHearF s).er = s.er ∧ (l.foldl hHearF s).lost = s.lost ∧ (l.foldl hHearF s).R = s.R := by
  induction l generalizing s with
  | nil => exact ⟨rfl,rfl,rfl,rfl,rfl,rfl,rfl,rfl,rfl,rfl,rfl,rfl⟩
  | cons c l ih => exact ih (hHearF s c)
theorem hear_b (s : Ho) (l : List UInt8) : (l.foldl hHearF s).hd.length = s.hd.length + l.length ∧ (l.foldl hHearF s).d.n = s.d.n + l.length := by
  induction l generalizing s with
  | nil => exact ⟨rfl,rfl⟩
  | cons c l ih =>
    have := ih (hHearF s c)
    simp only [List.foldl_cons,List.length_cons]
    rw [this.1,this.2]
    simp only [hHearF,List.length_append,List.length_singleton,de_n]
    omega
theorem take_snoc5 {j : Nat} (hj : j < 5) : ([13,10,61,62,32] : List UInt8).take (j + 1) = ([13,10,61,62,32] : List UInt8).take j ++ [([13,10,61,62,32] : List UInt8)[j]] := by
  rw [List.take_succ_eq_append_getElem hj]
end Go.Proofs.YtccjlggpiliilaaGreatDoor.Ab

set_option linter.unusedVariables false
set_option linter.unusedSimpArgs false
namespace Go.Proofs.YtccjlggpiliilaaGreatDoor.Ab
open Go Go.RowKit
set_option maxHeartbeats 4000000
set_option maxRecDepth 100000
def xsA : List Ac := [⟨[],.slice none 0 0,0,9,0,0⟩]
theorem mkR_A {es : List En} {ims : List (Value × List UInt8)} (h : MkR xsA (entsA xsA).length es ims) : ∃ P d v,es = [⟨⟨⟨[102,97]⟩⟩,0,10,P,0⟩] ∧ ims = [(v,d)] ∧ d.length = 10 := by
  have hl : es.length = 1 := h.len
  have hi : ims.length = 1 := h.iml
  match es,ims,hl,hi with
  | [e],[(v,d)],_,_ =>
    obtain ⟨e0,h0,he0⟩ := h.eq 0 e rfl
    have h0 : some (entA ⟨[],.slice none 0 0,0,9,0,0⟩ 0) = some e0 := h0
    cases h0
    have h1 := h.at_ 0 e (v,d) rfl rfl
    refine ⟨e.p,d,v,?_,rfl,?_⟩
    · rw [he0]; rfl
    · have h2 := h1.1
      rw [he0] at h2
      have h3 : (10 : Int) = (d.length : Int) := h2
      omega
theorem chk_A (P : Int) : (chkV [⟨⟨⟨[102,97]⟩⟩,0,10,P,0⟩]).2 = 0 := by
  have h : nameB ⟨⟨[102,97]⟩⟩ = true := by decide +kernel
  have hr : rngB ⟨⟨⟨[102,97]⟩⟩,0,10,P,0⟩ = true := by
    rw [rngB_iff]
    simp [rngP,roomOf]
  simp [chkV,chkF,vdt,h,dupB,hr]
theorem c_awakeH {w0 : World} {m : Mem} {Q : Value → Mem → Prop} (hp : Part L0 m) (ht : Ten w0) (hq : ∀ M,Old m M → Q (.bool true) M) : AbC Tryz.prog w0 7 [] m Q := by
  refine AbC_fn ok7 (by simp) ?_
  simp -implicitDefEqProofs (disch := first | assumption | omega) [rc7,ro7,wkB,rtZ,sbZ,dC,ev,fiZ,pkZ,putAt,bnd,slD,gZ0,gZ1,Mem.cell,Mem.row,coZ,crZ]
  refine SK_bslS (Sep.ofOld hp) (cs := xsA.flatMap Ac.cells) (by simp [fiZ,pkZ,wkB,rtZ,sbZ,dC,ev,fiZ,pkZ,putAt,bnd,slD,gZ0,gZ1,Mem.cell,Mem.row,coZ,crZ,xsA,Ac.cells]) rfl fun b1 m1 h1 _ _ => ?_
  simp -implicitDefEqProofs (disch := first | assumption | omega) [wkB,rtZ,sbZ,dC,ev,fiZ,pkZ,putAt,bnd,slD,gZ0,gZ1,Mem.cell,Mem.row,coZ,crZ]
  refine SK_bslS h1 (cs := ([120] : List UInt8).map byteV) (by simp [fiZ,pkZ,wkB,rtZ,sbZ,dC,ev,fiZ,pkZ,putAt,bnd,slD,gZ0,gZ1,Mem.cell,Mem.row,coZ,crZ,byteV]) rfl fun b2 m2 h2 _ _ => ?_
  have g2 := h2.get 0 rfl
  simp -implicitDefEqProofs (disch := first | assumption | omega) [wkB,rtZ,sbZ,dC,ev,fiZ,pkZ,putAt,bnd,slD,gZ0,gZ1,Mem.cell,Mem.row,coZ,crZ]
  refine SK_cvm (i := b2) (o := 0) (n := 1) (z := 1) (cs := ([120] : List UInt8).map byteV) (e := 5) (by simp [wkB,rtZ,sbZ,dC,ev,fiZ,pkZ,putAt,bnd,slD,gZ0,gZ1,Mem.cell,Mem.row,coZ,crZ]) g2 ?_
  have hr2 : RdV (fun i => i < m2.next) m2 1 (.slice (some ⟨b2,0,none⟩) 1 1) (([120] : List UInt8).map byteV) ([120] : List UInt8).length := h2.rd 0 (k := 1) (sz := 1) rfl rfl (fun e => by cases e) (fun i hi => by cases hi; exact h2.lt 0 rfl)
  have hr1 : RdV (fun i => i < m2.next) m2 5 (.slice (some ⟨b1,0,none⟩) 1 5) (xsA.flatMap Ac.cells) xsA.length := h2.rd 1 (k := 1) (sz := 5) rfl rfl (fun e => by cases e) (fun i hi => by cases hi; exact h2.lt 1 rfl)
  have hxr : ∀ x ∈ xsA,x.rng := fun x hx => by
    simp only [xsA,List.mem_singleton] at hx
    subst hx
    exact ⟨by simp,by simp,by simp,by simp⟩
  simp -implicitDefEqProofs (disch := first | assumption | omega) [wkB,rtZ,sbZ,dC,ev,fiZ,pkZ,putAt,bnd,slD,gZ0,gZ1,Mem.cell,Mem.row,coZ,crZ]
  refine c_lMake h2.pt hr1.sl (fun b hb => (hr1.bl b hb).1) (fun x hx => ?_) (by simp [xsA]) hr2 (by simp) fun m3 es ims oe oi D h3 hM hoe hoi hI => ?_
  · have hr := hxr x hx
    simp only [xsA,List.mem_singleton] at hx
    subst hx
    exact ⟨hr,⟨rfl,.inl ⟨rfl,.inl rfl⟩⟩,(fun b hb => by cases hb),by simp⟩
  have hright := mkR_right hM
  have hEI := mkR_i hM hxr
  obtain ⟨P,d,v,rfl,rfl,hdl⟩ := mkR_A hM
  rw [chk_A] at hright
  obtain ⟨e,he⟩ : ∃ e : En,e = ⟨⟨⟨[102,97]⟩⟩,0,10,P,0⟩ := ⟨_,rfl⟩
  have hefs : e.a = 0 ∧ e.w = 0 := by rw [he]; exact ⟨rfl,rfl⟩
  rw [← he] at h3 hM hright hEI ⊢
  have h3 := h2.addO h3
  obtain ⟨L3,hL3⟩ : ∃ L : HL,L = (((oe,.own (([e] : List En).flatMap En.cells) 56) :: (oi,.own (([(v,d)] : List (Value × List UInt8)).flatMap fun x => [x.1]) 28) :: D) ++ [(some b2,.own (([120] : List UInt8).map byteV) 5),(some b1,.own (xsA.flatMap Ac.cells) 64)]) := ⟨_,rfl⟩
  have k3 : Sep m (fun i => i < m.next) m3 L3 := by rw [hL3]; exact h3
  have moe : (oe,Ent.own (([e] : List En).flatMap En.cells) 56) ∈ L3 := by rw [hL3]; exact List.mem_append_left _ (List.mem_cons_self ..)
  have moi : (oi,Ent.own (([(v,d)] : List (Value × List UInt8)).flatMap fun x => [x.1]) 28) ∈ L3 := by rw [hL3]; exact List.mem_append_left _ (List.mem_cons_of_mem _ (List.mem_cons_self ..))
  have mD : ∀ p ∈ D,p ∈ L3 := fun p hp => by rw [hL3]; exact List.mem_append_left _ (List.mem_cons_of_mem _ (List.mem_cons_of_mem _ hp))
  clear hL3
  obtain ⟨be,rfl⟩ : ∃ b,oe = some b := by
    cases oe with
    | none => have := hoe rfl; simp at this
    | some b => exact ⟨b,rfl⟩
  have hlt3 : ∀ {i : Nat} {E : Ent},(some i,E) ∈ L3 → i < m3.next := fun {i E} hh => (k3.ok (some i,E) hh i rfl).2.1
  have hre : RdV (fun i => i < m3.next) m3 5 (slV (some be) 1 5) (([e] : List En).flatMap En.cells) ([e] : List En).length := k3.rdm moe rfl (fun e => by cases e) (fun i hi => by cases hi; exact hlt3 moe)
  have him : ImsV (fun i => i < m3.next) m3 (slV oi 1 1) [(v,d)] := by
    refine ⟨k3.rdm moi rfl hoi (fun i hi => by subst hi; exact hlt3 moi),fun x hx => ?_,fun x hx => ?_⟩
    · exact (hI x hx).rd k3 mD (fun i hi => by
        obtain ⟨p,hp1,hp2⟩ := hi
        have := (k3.ok p (mD p hp1) i hp2).2.1
        exact this)
    · rw [List.mem_singleton] at hx; subst hx; simp only; omega
  have hds : ([(v,d)] : List (Value × List UInt8)).map (·.2) = [d] := rfl
  rw [hds] at hright
  simp -implicitDefEqProofs (disch := first | assumption | omega) [wkB,rtZ,sbZ,dC,ev,fiZ,pkZ,putAt,bnd,slD,gZ0,gZ1,Mem.cell,Mem.row,coZ,crZ]
  refine c_hOf (mb := m) (tr := 3) (wt := 5) (ct := 2) (rm := 100) (es := [e]) (ims := [(v,d)]) k3.pt k3.base hre him hEI (by simp) (by simp) (fun x hx => by rw [List.mem_singleton] at hx; subst hx; simp only; omega) (fun hb => absurd hright hb) fun _ m4 ih x4 HP R vw ve vi EI ip av pls h4 hok4 hR4 hofr hPR hRel => ?_
  have hR100 : R = 100 := by have : clampI 1 4096 100 = 100 := rfl; omega
  subst hR100
  have h4 := k3.addO h4
  have ec : clampI 1 9 2 = 2 := rfl
  rw [ec] at h4 hok4
  obtain ⟨s4,hs4⟩ : ∃ s4 : Ho,s4 = { ho0 3 5 2 100 vw ve vi with pl := .pointer (some ⟨ip,0,none⟩),out := [13] } := ⟨_,rfl⟩
  rw [← hs4] at h4 hok4
  have h4 : Sep m (fun i => i < m.next) m4 (hoH ih s4 x4 ++ ((EI ++ L3) ++ HP)) := h4.perm (by
    rw [List.append_assoc,List.append_assoc,List.append_assoc]
    exact List.Perm.append_left _ (List.Perm.append_left _ List.perm_append_comm))
  have e13 : s4.out = [13] := by rw [hs4]
  simp -implicitDefEqProofs (disch := first | assumption | omega) [wkB,rtZ,sbZ,dC,ev,fiZ,pkZ,putAt,bnd,slD,gZ0,gZ1,Mem.cell,Mem.row,coZ,crZ,rc7_0]
  refine c_hOut h4 hok4 fun m5 x5 h5 hok5 => ?_
  rw [e13] at h5 ⊢
  have hb5 : bstr m5 (slV x4.oo 1 1) = some (.string ⟨⟨[13]⟩⟩) := SlR.txt (h5.slO 0 (k := 1) (sz := 1) rfl rfl (fun e => by have := hok4.o e; rw [e13] at this; simp at this)).read
  have h5 := h5.tl
  obtain ⟨s5,hs5⟩ : ∃ s5 : Ho,s5 = { s4 with out := [] } := ⟨_,rfl⟩
  rw [← hs5] at h5 hok5
  simp -implicitDefEqProofs (disch := first | assumption | omega) [wkB,rtZ,sbZ,dC,ev,fiZ,pkZ,putAt,bnd,slD,gZ0,gZ1,Mem.cell,Mem.row,coZ,crZ,hb5]
  refine SK_bslS h5 (cs := ([13,10,61,62,32] : List UInt8).map byteV) (by simp [fiZ,pkZ,wkB,rtZ,sbZ,dC,ev,fiZ,pkZ,putAt,bnd,slD,gZ0,gZ1,Mem.cell,Mem.row,coZ,crZ,byteV]) rfl fun b6 m6 h6 _ _ => ?_
  have g6 := h6.get 0 rfl
  have h6 := h6.cm
  simp -implicitDefEqProofs (disch := first | assumption | omega) [wkB,rtZ,sbZ,dC,ev,fiZ,pkZ,putAt,bnd,slD,gZ0,gZ1,Mem.cell,Mem.row,coZ,crZ]
  refine SK_cvm (i := b6) (o := 0) (n := 5) (z := 1) (cs := ([13,10,61,62,32] : List UInt8).map byteV) (e := 5) (by simp [wkB,rtZ,sbZ,dC,ev,fiZ,pkZ,putAt,bnd,slD,gZ0,gZ1,Mem.cell,Mem.row,coZ,crZ]) g6 ?_
  have m6b : (some b6,Ent.own (([13,10,61,62,32] : List UInt8).map byteV) 5) ∈ (some b6,Ent.own (([13,10,61,62,32] : List UInt8).map byteV) 5) :: ((EI ++ L3) ++ HP) := List.mem_cons_self ..
  have hr6 : RdV (fun i => i < m6.next ∧ ¬ ids (hoH ih s5 x5) i) m6 1 (.slice (some ⟨b6,0,none⟩) 5 1) (([13,10,61,62,32] : List UInt8).map byteV) ([13,10,61,62,32] : List UInt8).length := h6.rdm (ob := some b6) (k := 5) (List.mem_append_right _ m6b) rfl (fun e => by cases e) (fun i hi => by cases hi; exact ⟨(h6.ok _ (List.mem_append_right _ m6b) _ rfl).2.1,nids h6 ⟨_,m6b,rfl⟩⟩)
  simp -implicitDefEqProofs (disch := first | assumption | omega) [wkB,rtZ,sbZ,dC,ev,fiZ,pkZ,putAt,bnd,slD,gZ0,gZ1,Mem.cell,Mem.row,coZ,crZ]
  refine c_hPut h6 hok5 hr6 (by simp) (by rw [hs5,hs4]; show (0 : Int) ≤ _; omega) fun m7 x7 h7 hok7 => ?_
  obtain ⟨s7,hs7⟩ : ∃ s7 : Ho,s7 = { s5 with q := [13,10,61,62,32] } := ⟨_,rfl⟩
  have hF7 : hPutF s5 [13,10,61,62,32] = s7 := by rw [hs7,hs5,hs4]; rfl
  rw [hF7] at h7 hok7
  simp -implicitDefEqProofs (disch := first | assumption | omega) [wkB,rtZ,sbZ,dC,ev,fiZ,pkZ,putAt,bnd,slD,gZ0,gZ1,Mem.cell,Mem.row,coZ,crZ]
  obtain ⟨sq,hsq⟩ : ∃ sq : Ho,sq = { s7 with q := [] } := ⟨_,rfl⟩
  obtain ⟨E0,hE0⟩ : ∃ E0 : HL,E0 = (some b6,Ent.own (([13,10,61,62,32] : List UInt8).map byteV) 5) :: (EI ++ L3) := ⟨_,rfl⟩
  have h7 : Sep m (fun i => i < m.next) m7 (hoH ih s7 x7 ++ (E0 ++ HP)) := by rw [hE0]; exact h7
  have f7 : s7.q = [13,10,61,62,32] := by rw [hs7]
  have fq : sq.ph = 0 ∧ sq.pl = .pointer (some ⟨ip,0,none⟩) ∧ sq.ve = ve ∧ sq.vi = vi ∧ sq.k = 0 ∧ sq.out = [] ∧ sq.tr = 3 ∧ sq.wt = 5 ∧ sq.hd = [] ∧ sq.d.n = 0 := by rw [hsq,hs7,hs5,hs4]; exact ⟨rfl,rfl,rfl,rfl,rfl,rfl,rfl,rfl,rfl,rfl⟩
  obtain ⟨oe',oi',iz,hve,hvi,hEIe,hiz,hoe',hoi',hizn⟩ := hofr.ex
  obtain ⟨be',rfl⟩ : ∃ b,oe' = some b := by
    cases oe' with
    | none => have := hoe' rfl; simp at this
    | some b => exact ⟨b,rfl⟩
  obtain ⟨N,hN⟩ : ∃ N,numL (splitL (e.w == 2) d) = N := ⟨_,rfl⟩
  have hb0 : BaseK m m := fun _ _ => rfl
  have hJ1 : ∀ j,(hj : j < 5) → hHearF (hearJ sq j) (([13,10,61,62,32] : List UInt8)[j]) = hearJ sq (j + 1) := fun j hj => by
    unfold hearJ; rw [take_snoc5 hj,List.foldl_append]; rfl
  have hJ2 : ∀ j,(hj : j < 5) → wkPut (wkJ j) (([13,10,61,62,32] : List UInt8)[j]) = wkJ (j + 1) := fun j hj => by
    unfold wkJ; rw [take_snoc5 hj,List.foldl_append]; rfl
  have hJB : ∀ j,j ≤ 5 → HoB 1000000000 (hearJ sq j) := fun j hj => by
    have h1 := hear_b sq (([13,10,61,62,32] : List UInt8).take j)
    have h2 := hear_pl sq (([13,10,61,62,32] : List UInt8).take j)
    have h3 : (([13,10,61,62,32] : List UInt8).take j).length ≤ 5 := by rw [List.length_take]; simp; omega
    refine ⟨?_,?_,?_⟩
    · unfold hearJ; rw [h1.1,fq.2.2.2.2.2.2.2.2.1]; simp only [List.length_nil]; omega
    · unfold hearJ; rw [h1.2,fq.2.2.2.2.2.2.2.2.2]; omega
    · unfold hearJ; rw [h2.2.2.2.2.2.2.1,fq.2.2.2.2.2.1]; simp
  have hJP : ∀ j,(hearJ sq j).ph = 0 ∧ (hearJ sq j).pl = .pointer (some ⟨ip,0,none⟩) ∧ (hearJ sq j).ve = ve ∧ (hearJ sq j).vi = vi ∧ (hearJ sq j).k = 0 ∧ (hearJ sq j).out = [] ∧ (hearJ sq j).tr = 3 ∧ (hearJ sq j).wt = 5 := fun j => by
    have h2 := hear_pl sq (([13,10,61,62,32] : List UInt8).take j)
    unfold hearJ
    exact ⟨h2.2.1.trans fq.1,h2.1.trans fq.2.1,h2.2.2.2.1.trans fq.2.2.1,h2.2.2.2.2.1.trans fq.2.2.2.1,h2.2.2.2.2.2.1.trans fq.2.2.2.2.1,h2.2.2.2.2.2.2.1.trans fq.2.2.2.2.2.1,h2.2.2.2.2.2.2.2.1.trans fq.2.2.2.2.2.2.1,h2.2.2.2.2.2.2.2.2.1.trans fq.2.2.2.2.2.2.2.1⟩
  refine c_hTickG h7 hok7 (fun oo j M => (oo = none → (5 : Nat) = 0) ∧ ((j < 5 ∧ ∃ x' HP' pls',Sep m (fun i => i < m.next) M (hoH ih (hearJ sq j) x' ++ ((byH oo s7.q :: E0) ++ HP')) ∧ HoOk (hearJ sq j) x' ∧ PlR m HP' ip (lW av) pls' ∧ RelW pls' (wkJ j)) ∨ (j = 5 ∧ ∃ x' HS ig T',Sep m (fun i => i < m.next) M (hoH ih (hLoadF (hearJ sq 5) e ig) x' ++ (HS ++ T')) ∧ HoOk (hLoadF (hearJ sq 5) e ig) x' ∧ SnR HS ig (snOf 3 5 N (e.w != 0) true) ∧ (some be,Ent.own (([e] : List En).flatMap En.cells) 56) ∈ T'))) (fun M oo x' hM hok hoo => ⟨fun e => by have := hoo e; rw [f7] at this; simp at this,.inl ⟨by omega,x',HP,pls,?_,?_,hPR,hRel⟩⟩) (fun oo j M hj hPj => ?_) fun oo M fr hPe f0 => ?_
  · have := hM.cm
    rw [← hsq] at this
    exact this
  · rw [← hsq] at hok
    exact hok
  · obtain ⟨hoo,hPj⟩ := hPj
    have hj5 : j < 5 := by rw [f7] at hj; exact hj
    rcases hPj with ⟨-,x',HP',pls',hM,hok,hPR',hRel'⟩ | ⟨h5,-⟩
    case inr => omega
    have hqj : s7.q[j] = ([13,10,61,62,32] : List UInt8)[j] := by simp only [f7]
    have hmq : byH oo s7.q ∈ hoH ih (hearJ sq j) x' ++ ((byH oo s7.q :: E0) ++ HP') := List.mem_append_right _ (List.mem_append_left _ (List.mem_cons_self ..))
    refine ⟨(hM.slm (ob := oo) (cs := s7.q.map byteV) (k := s7.q.length) (sz := 1) hmq (by simp) (fun e => by have := hoo e; omega)).read,?_⟩
    rw [hqj]
    obtain ⟨p1,p2,p3,p4,p5,p6,p7,p8⟩ := hJP j
    obtain ⟨a,ha⟩ := wkJ_no ⟨j,hj5⟩
    have ha : wkJ j = .run 8 0 a := ha
    have htr : pls'.tr.length ≤ 1 := by rw [ha] at hRel'; rw [hRel'.1.tr]; simp
    refine c_hTake0 (mb := m) (E := byH oo s7.q :: E0) (w := wkJ j) hM hok (hJB j (by omega)) p1 hb0 p2 hPR' hRel' htr (fun M2 x2 HP2 pls2 h2 hok2 hPR2 hRel2 hnw _ => ⟨hoo,.inl ?_⟩) (fun hw M2 x2 HP2 h2 hok2 => ?_) (by rw [ha]; simp)
    · rw [hJ1 j hj5] at h2 hok2
      rw [hJ2 j hj5] at hRel2 hnw
      refine ⟨?_,x2,HP2,pls2,h2,hok2,hPR2,hRel2⟩
      rcases Nat.lt_or_ge (j + 1) 5 with h' | h'
      · exact h'
      · exact absurd (show wkJ (j + 1) = .well by rw [show j + 1 = 5 by omega]; exact wkJ_5) hnw
    · rw [hJ1 j hj5] at h2 hok2
      rw [hJ2 j hj5] at hw
      have hj4 : j + 1 = 5 := by
        rcases Nat.lt_or_ge (j + 1) 5 with h' | h'
        · obtain ⟨a2,ha2⟩ := wkJ_no ⟨j + 1,h'⟩
          have ha2 : wkJ (j + 1) = .run 8 0 a2 := ha2
          rw [ha2] at hw; cases hw
        · omega
      rw [hj4] at h2 hok2
      obtain ⟨p1,p2,p3,p4,p5,p6,p7,p8⟩ := hJP 5
      have mE : ∀ p ∈ EI,p ∈ (byH oo s7.q :: E0) ++ HP2 := fun p hp => List.mem_append_left _ (List.mem_cons_of_mem _ (by rw [hE0]; exact List.mem_cons_of_mem _ (List.mem_append_left _ hp)))
      obtain ⟨od,hod⟩ : ∃ od,iz = [(od,d)] := by
        match iz,hiz with
        | [(od,dd)],hiz => simp only [List.map_cons,List.map_nil,List.cons.injEq,and_true] at hiz; subst hiz; exact ⟨od,rfl⟩
        | [],hiz => cases hiz
        | _ :: _ :: _,hiz => cases hiz
      refine c_hLoadP (j := 0) (n := 1) (es := [e]) (e := e) (iz := iz) (ob := od) (D := d) ht h2 hok2 (p3.trans hve) (mE _ (by rw [hEIe]; exact List.mem_cons_self ..)) p5 rfl (by rw [hefs.2]; omega) (by rw [hefs.1]; omega) (p4.trans hvi) (mE _ (by rw [hEIe]; exact List.mem_cons_of_mem _ (List.mem_cons_self ..))) (by rw [hod]; rfl) hoi' (by rw [hod]; rfl) (mE _ (by rw [hEIe,hod]; exact List.mem_cons_of_mem _ (List.mem_cons_of_mem _ (List.mem_cons_self ..)))) (fun e0 => hizn (od,d) (by rw [hod]; exact List.mem_singleton.2 rfl) e0) (by omega) (by rw [p6]; simp) fun M3 x3 HS ig h3' hok3 hR3 => ⟨hoo,.inr ⟨hj4,x3,HS,ig,_,h3',hok3,?_,List.mem_append_left _ (List.mem_cons_of_mem _ (by rw [hE0]; exact List.mem_cons_of_mem _ (List.mem_append_right _ moe)))⟩⟩
      rw [p7,p8,hN] at hR3
      exact hR3
  · obtain ⟨hoo,hPe⟩ := hPe
    rcases hPe with ⟨h5,-⟩ | ⟨-,x8,HS,ig,T',h8,hok8,hR8,mT⟩
    · rw [f7] at h5; simp at h5
    obtain ⟨p1,p2,p3,p4,p5,p6,p7,p8⟩ := hJP 5
    have hst : sTickF (snOf 3 5 N (e.w != 0) true) = ({ snOf 3 5 N (e.w != 0) true with left := 4 },[]) := by
      unfold sTickF
      rw [if_neg (by simp [snOf]),if_pos (by simp [snOf,clampI])]
      rfl
    have ho8 : (hLoadF (hearJ sq 5) e ig).out = loadL (wayN e.w) e.a := by
      show (hearJ sq 5).out ++ _ = _
      rw [p6]; rfl
    obtain ⟨L,hL⟩ : ∃ L,loadL (wayN e.w) e.a = L := ⟨_,rfl⟩
    have hLl : L.length ≤ 100 := by
      rw [← hL,hefs.1,hefs.2]
      decide +kernel
    rw [hL] at ho8
    refine w_hTick1 h8 hok8 rfl rfl hR8 (by rw [hst]; simp [snOf]) (by rw [hst,ho8]; simp; omega) f0 fun M9 x9 HS9 h9 hok9 hR9 => ?_
    rw [hst] at h9 hok9
    simp only [send_nil] at h9 hok9
    obtain ⟨s9,hs9⟩ : ∃ s9,hLoadF (hearJ sq 5) e ig = s9 := ⟨_,rfl⟩
    have hph9 : s9.ph = 1 := by rw [← hs9]; rfl
    rw [hs9] at h9 hok9 ho8
    have gbe := h9.mem (List.mem_append_right (hoH ih s9 x9) (List.mem_append_right HS9 mT))
    have gbe : M9.get be = .own [.string e.nm,.int .i64 e.a,.int .i64 e.s,.int .u32 e.p,.int .i64 e.w] 56 := gbe
    have hidx : sidx 5 (slV (some be) 1 5) (.int .i64 0) = some (.pointer (some ⟨be,0,none⟩)) := by simpa [slV] using sidx_at (b := be) (o := 0) (n := 1) (c := 5) (j := 0) (sz := 5) (k := .i64) (by omega)
    simp -implicitDefEqProofs (disch := first | assumption | omega) [wkB,rtZ,sbZ,dC,ev,fiZ,pkZ,putAt,bnd,slD,gZ0,gZ1,Mem.cell,Mem.row,coZ,crZ,hidx,gbe]
    refine c_hOut h9 hok9 fun MA xA hA hokA => ?_
    rw [ho8] at hA ⊢
    have gA := hA.mem (List.mem_cons_of_mem _ (List.mem_append_right _ (List.mem_append_right HS9 mT)))
    have gA : MA.get be = .own [.string e.nm,.int .i64 e.a,.int .i64 e.s,.int .u32 e.p,.int .i64 e.w] 56 := gA
    have hoL : x9.oo = none → L.length = 0 := fun e => by have := hok9.o e; rw [ho8] at this; exact this
    have hbA : bstr MA (slV x9.oo L.length 1) = some (.string ⟨⟨L⟩⟩) := SlR.txt (hA.slO 0 (k := L.length) (sz := 1) rfl (by simp) hoL).read
    simp -implicitDefEqProofs (disch := first | assumption | omega) [wkB,rtZ,sbZ,dC,ev,fiZ,pkZ,putAt,bnd,slD,gZ0,gZ1,Mem.cell,Mem.row,coZ,crZ,gA,hbA]
    refine c_Load hA.pt ht (by rw [hefs.1]; omega) fun MB oB => ?_
    have hB := hA.old oB
    have hbB : bstr MB (slV x9.oo L.length 1) = some (.string ⟨⟨L⟩⟩) := SlR.txt (hB.slO 0 (k := L.length) (sz := 1) rfl (by simp) hoL).read
    have eLL : (L == L) = true := by simp
    rw [hL]
    simp -implicitDefEqProofs (disch := first | assumption | omega) [wkB,rtZ,sbZ,dC,ev,fiZ,pkZ,putAt,bnd,slD,gZ0,gZ1,Mem.cell,Mem.row,coZ,crZ,hbB,eLL]
    have hBm : (some ih,Ent.own (hoC { s9 with out := [] } xA) 83) ∈ byH x9.oo L :: (hoH ih { s9 with out := [] } xA ++ (HS9 ++ T')) := List.mem_cons_of_mem _ (List.mem_append_left _ (List.mem_cons_self ..))
    refine c_hPhase hB hBm ?_
    simp only [hph9]
    simp -implicitDefEqProofs (disch := first | assumption | omega) [wkB,rtZ,sbZ,dC,ev,fiZ,pkZ,putAt,bnd,slD,gZ0,gZ1,Mem.cell,Mem.row,coZ,crZ]
    exact hq MB hB.toOld
end Go.Proofs.YtccjlggpiliilaaGreatDoor.Ab

set_option linter.unusedVariables false
set_option linter.unusedSimpArgs false
namespace Go.Proofs.YtccjlggpiliilaaGreatDoor.Ab
open Go Go.RowKit
set_option maxHeartbeats 4000000
set_option maxRecDepth 100000
theorem SlR.k2 {m : Mem} {v : Value} {xs : List Ac} (hv : SlR m 5 v (xs.flatMap Ac.cells) xs.length) : ∃ v' k,min xs.length 2 = k ∧ (xs.take k).length = k ∧ slW 5 v none (some (.int .i64 (k : Nat))) = some v' ∧ SlR m 5 v' ((xs.take k).flatMap Ac.cells) (xs.take k).length ∧ (∀ b,blk v' = some b → blk v = some b) := by
  obtain ⟨k,hk⟩ : ∃ k,min xs.length 2 = k := ⟨_,rfl⟩
  obtain ⟨v',h1,h2,h3⟩ := hv.upto (k := k) (by omega)
  have hl : (xs.take k).length = k := by rw [List.length_take]; omega
  refine ⟨v',k,hk,hl,h1,?_,h3⟩
  rw [hl]
  rw [flat_take acl] at h2
  exact h2
theorem mk_read {V : Nat → Prop} {m0 m : Mem} {l : HL} {oe oi : Option Nat} {es : List En} {ims : List (Value × List UInt8)} {D : HL} (h : Sep m0 V m l) (h1 : (oe,Ent.own (es.flatMap En.cells) 56) ∈ l) (h2 : (oi,Ent.own (ims.flatMap fun x => [x.1]) 28) ∈ l) (h3 : ∀ p ∈ D,p ∈ l) (hoe : oe = none → es.length = 0) (hoi : oi = none → ims.length = 0) (hI : ∀ x ∈ ims,ImO D x) (hz : ∀ x ∈ ims,x.2.length ≤ 600) :
    RdV (fun i => i < m.next) m 5 (slV oe es.length 5) (es.flatMap En.cells) es.length ∧ ImsV (fun i => i < m.next) m (slV oi ims.length 1) ims := by
  refine ⟨h.rdm h1 (by rw [flat_len enl]) hoe (fun i hi => by subst hi; exact (h.ok _ h1 i rfl).2.1),⟨h.rdm h2 (flat_len (f := fun x : Value × List UInt8 => [x.1]) (k := 1) (fun _ => rfl) ims) hoi (fun i hi => by subst hi; exact (h.ok _ h2 i rfl).2.1),fun x hx => (hI x hx).rd h h3 (fun i hi => ?_),fun x hx => by have := hz x hx; omega⟩⟩
  obtain ⟨p,hp1,hp2⟩ := hi
  exact (h.ok p (h3 p hp1) i hp2).2.1
theorem mkR_600 {xs : List Ac} {es : List En} {ims : List (Value × List UInt8)} (h : MkR xs (entsA xs).length es ims) : ∀ x ∈ ims,x.2.length ≤ 600 := fun x hx => by
  obtain ⟨k,hk,rfl⟩ := List.mem_iff_getElem.1 hx
  have hk2 : k < es.length := by rw [h.len,← h.iml]; exact hk
  exact (h.at_ k _ _ (List.getElem?_eq_getElem hk2) (List.getElem?_eq_getElem hk)).2.2.2
theorem mkR_len {xs : List Ac} {es : List En} {ims : List (Value × List UInt8)} (h : MkR xs (entsA xs).length es ims) : es.length ≤ 8 ∧ ims.length = es.length := by
  have h1 := h.len
  have h2 := h.iml
  have : (entsA xs).length ≤ 8 := by unfold entsA; rw [entsJ_len]; omega
  omega
end Go.Proofs.YtccjlggpiliilaaGreatDoor.Ab

set_option linter.unusedVariables false
set_option linter.unusedSimpArgs false
namespace Go.Proofs.YtccjlggpiliilaaGreatDoor.Ab
open Go Go.RowKit
set_option maxHeartbeats 4000000
set_option maxRecDepth 100000
theorem q_nil {s : Ho} (h : s.q = []) : ({ s with q := [] } : Ho) = s := by rw [← h]
theorem c_hTickQ {w0 : World} {V : Nat → Prop} {mb m0 m : Mem} {E HP : HL} {ih ip : Nat} {s : Ho} {x : HoX} {av : Value} {pls : PlS} {w : Wk} {Q : Value → Mem → Prop} (h : Sep m0 V m (hoH ih s x ++ (E ++ HP))) (hx : HoOk s x) (hB : HoB 1000000000 s) (hq0 : s.q = []) (hp : s.ph = 0) (hb : BaseK mb m0) (hpl : s.pl = .pointer (some ⟨ip,0,none⟩)) (hR : PlR mb HP ip (lW av) pls) (hW : RelW pls w) (hne : w ≠ .well)
    (hq : ∀ M x' HP' pls',Sep m0 V M (hoH ih (hTick0F s w) x' ++ (E ++ HP')) → HoOk (hTick0F s w) x' → PlR mb HP' ip (lW av) pls' → RelW pls' (wkTick w).1 → Q (.tuple ⟨[]⟩) M) :
    AbC Tryz.prog w0 15 [.pointer (some ⟨ih,0,none⟩)] m Q := by
  refine c_hTickG h hx (fun oo j M => ∃ x',Sep m0 V M (hoH ih s x' ++ (E ++ HP)) ∧ HoOk s x') (fun M oo x' hM hok _ => ?_) (fun oo j M hj _ => by rw [hq0] at hj; simp at hj) fun oo M fr ⟨x',hM,hok⟩ f0 => w_hTick0 hM hok hB hp hb hpl hR hW hne f0 hq
  rw [q_nil hq0] at hM hok
  exact ⟨x',hM.tl,hok⟩
theorem c_hTickQ7 {w0 : World} {V : Nat → Prop} {m0 m : Mem} {T : HL} {ih : Nat} {s : Ho} {x : HoX} {Q : Value → Mem → Prop} (h : Sep m0 V m (hoH ih s x ++ T)) (hx : HoOk s x) (hq0 : s.q = []) (hp : s.ph = 7)
    (hq : ∀ M x',Sep m0 V M (hoH ih s x' ++ T) → HoOk s x' → Q (.tuple ⟨[]⟩) M) :
    AbC Tryz.prog w0 15 [.pointer (some ⟨ih,0,none⟩)] m Q := by
  refine c_hTickG h hx (fun oo j M => ∃ x',Sep m0 V M (hoH ih s x' ++ T) ∧ HoOk s x') (fun M oo x' hM hok _ => ?_) (fun oo j M hj _ => by rw [hq0] at hj; simp at hj) fun oo M fr ⟨x',hM,hok⟩ f0 => w_hTick7 hM (List.mem_append_left _ (List.mem_cons_self ..)) f0 hp (hq M x' hM hok)
  rw [q_nil hq0] at hM hok
  exact ⟨x',hM.tl,hok⟩
end Go.Proofs.YtccjlggpiliilaaGreatDoor.Ab

set_option linter.unusedVariables false
set_option linter.unusedSimpArgs false
namespace Go.Proofs.YtccjlggpiliilaaGreatDoor.Ab
open Go Go.RowKit
set_option maxHeartbeats 4000000
set_option maxRecDepth 100000
structure QI (mb : Mem) (HP : HL) (s : Ho) (w : Wk) : Prop where
  q : s.q = []
  c : s.ph = 7 ∨ (s.ph = 0 ∧ w ≠ .well ∧ ∃ ip av pls,s.pl = .pointer (some ⟨ip,0,none⟩) ∧ PlR mb HP ip (lW av) pls ∧ RelW pls w)
def qStep (s : Ho) (w : Wk) : Ho := if s.ph = 7 then s else hTick0F s w
def qWk (ph : Int) (w : Wk) : Wk := if ph = 7 then w else (wkTick w).1
def qOut (ph : Int) (w : Wk) : List UInt8 := if ph = 7 then [] else (wkTick w).2
def qPh (ph : Int) (w : Wk) : Int := if ph = 7 then 7 else if (wkTick w).1.st = 2 then 7 else ph
theorem qStep_out (s : Ho) (w : Wk) : (qStep s w).out = s.out ++ qOut s.ph w ∧ (qStep s w).ph = qPh s.ph w ∧ (qStep s w).hd = s.hd ∧ (qStep s w).d.n = s.d.n ∧ (qStep s w).q = s.q := by
  unfold qStep qOut qPh
  by_cases h : s.ph = 7
  · rw [if_pos h,if_pos h,if_pos h]
    exact ⟨by simp,h,rfl,rfl,rfl⟩
  · rw [if_neg h,if_neg h,if_neg h]
    unfold hTick0F
    split <;> exact ⟨rfl,rfl,rfl,rfl,rfl⟩
theorem qOut_len (ph : Int) (w : Wk) : (qOut ph w).length ≤ 1 := by
  unfold qOut
  split
  · simp
  · exact wkTick_out w
theorem c_hTickI {w0 : World} {V : Nat → Prop} {mb m0 m : Mem} {E HP : HL} {ih : Nat} {s : Ho} {x : HoX} {w : Wk} {Q : Value → Mem → Prop} (h : Sep m0 V m (hoH ih s x ++ (E ++ HP))) (hx : HoOk s x) (hB : HoB 1000000000 s) (hI : QI mb HP s w) (hb : BaseK mb m0)
    (hq : ∀ M x' HP',Sep m0 V M (hoH ih (qStep s w) x' ++ (E ++ HP')) → HoOk (qStep s w) x' → QI mb HP' (qStep s w) (qWk s.ph w) → Q (.tuple ⟨[]⟩) M) :
    AbC Tryz.prog w0 15 [.pointer (some ⟨ih,0,none⟩)] m Q := by
  have hs := qStep_out s w
  rcases hI.c with h7 | ⟨h0,hne,ip,av,pls,hpl,hR,hW⟩
  · have e : qStep s w = s := by unfold qStep; rw [if_pos h7]
    rw [e] at hq
    refine c_hTickQ7 h hx hI.q h7 fun M x' hM hok => hq M x' HP hM hok ⟨hI.q,.inl h7⟩
  · have e : qStep s w = hTick0F s w := by unfold qStep; rw [if_neg (by omega)]
    have ew : qWk s.ph w = (wkTick w).1 := by unfold qWk; rw [if_neg (by omega)]
    rw [e] at hs
    rw [e,ew] at hq
    refine c_hTickQ h hx hB hI.q h0 hb hpl hR hW hne fun M x' HP' pls' hM hok hR' hW' => hq M x' HP' hM hok ⟨by rw [hs.2.2.2.2]; exact hI.q,?_⟩
    by_cases hst : (wkTick w).1.st = 2
    · left
      rw [hs.2.1]; unfold qPh
      rw [if_neg (by omega),if_pos hst]
    · right
      refine ⟨?_,wkTick_ne hne,ip,av,pls',?_,hR',hW'⟩
      · rw [hs.2.1]; unfold qPh
        rw [if_neg (by omega),if_neg hst]; exact h0
      · unfold hTick0F
        rw [if_neg hst]; exact hpl
theorem perm_xy {A B E X Y : HL} : (A ++ ((B ++ (E ++ Y)) ++ X)).Perm (B ++ ((A ++ (E ++ X)) ++ Y)) := by
  simp only [List.append_assoc]
  exact perm_sw.trans (List.Perm.append_left _ (List.Perm.append_left _ (List.Perm.append_left _ List.perm_append_comm)))
end Go.Proofs.YtccjlggpiliilaaGreatDoor.Ab

set_option linter.unusedVariables false
set_option linter.unusedSimpArgs false
namespace Go.Proofs.YtccjlggpiliilaaGreatDoor.Ab
open Go Go.RowKit
set_option maxHeartbeats 4000000
set_option maxRecDepth 100000
theorem c_hOfI {w0 : World} {mb m : Mem} {tr wt ct rm : Int} {v1 v2 : Value} {es : List En} {ims : List (Value × List UInt8)} {Q : Value → Mem → Prop} (hp : Part L0 m) (hbm : BaseK mb m) (h1 : RdV (fun i => i < m.next) m 5 v1 (es.flatMap En.cells) es.length) (h2 : ImsV (fun i => i < m.next) m v2 ims) (he : ∀ e ∈ es,EnI e)
    (hn : es.length ≤ 1000000000) (hn2 : ims.length ≤ 1000000000) (hsz : ∀ x ∈ ims,x.2.length ≤ 100000000000000)
    (hq : ∀ M ih x s w E HP,Sep m (fun i => i < m.next) M (hoH ih s x ++ (E ++ HP)) → HoOk s x → QI mb HP s w → HoB 10 s → (rightF es (ims.map (·.2)) = 0 → s.ph = 0 ∧ s.out = [13] ∧ w = .run 8 0 []) → (rightF es (ims.map (·.2)) ≠ 0 → s.ph = 7 ∧ s.out = [] ∧ w = .ill) → s.er = rightF es (ims.map (·.2)) → s.k = 0 → (s.R : Int) = clampI 1 4096 rm → s.lost = 0 → Q (.pointer (some ⟨ih,0,none⟩)) M) :
    AbC Tryz.prog w0 10 [.agg ⟨[.int .i64 tr,.int .i64 wt,.int .i64 ct,.int .i64 rm,.slice none 0 0]⟩,v1,v2] m Q := by
  refine c_hOf hp hbm h1 h2 he hn hn2 hsz (fun hr M ih x T R vw ve vi EI h hok hR _ => ?_) fun hr M ih x HP R vw ve vi EI ip av pls h hok hR _ hPR hRel => ?_
  · refine hq M ih x _ .ill EI T h hok ⟨rfl,.inl rfl⟩ ⟨by simp [hEndF,ho0],by simp [hEndF,ho0],by simp [hEndF,ho0]⟩ (fun e => absurd e hr) (fun _ => ⟨rfl,rfl,rfl⟩) rfl rfl hR rfl
  · refine hq M ih x _ (.run 8 0 []) EI HP h hok ⟨rfl,.inr ⟨rfl,by simp,ip,av,pls,rfl,hPR,hRel⟩⟩ ⟨by simp [ho0],by simp [ho0],by simp [ho0]⟩ (fun _ => ⟨rfl,rfl,rfl⟩) (fun e => absurd hr e) ?_ rfl hR rfl
    rw [hr]; rfl
theorem perm_2 {A B Ey Ex X Y L : HL} : ((B ++ (Ey ++ Y)) ++ ((A ++ (Ex ++ X)) ++ L)).Perm (A ++ ((B ++ ((Ey ++ (Ex ++ L)) ++ Y)) ++ X)) := by
  simp only [List.append_assoc]
  have s1 : (Y ++ (Ex ++ (X ++ L))).Perm (Ex ++ (L ++ (Y ++ X))) := by
    refine perm_sw.trans (List.Perm.append_left _ ?_)
    rw [← List.append_assoc]
    exact List.perm_append_comm
  have s2 : (Y ++ (A ++ (Ex ++ (X ++ L)))).Perm (A ++ (Ex ++ (L ++ (Y ++ X)))) := perm_sw.trans (List.Perm.append_left _ s1)
  have s3 : (Ey ++ (Y ++ (A ++ (Ex ++ (X ++ L))))).Perm (A ++ (Ey ++ (Ex ++ (L ++ (Y ++ X))))) := (List.Perm.append_left _ s2).trans perm_sw
  exact (List.Perm.append_left _ s3).trans perm_sw
theorem l_HOut {w0 : World} {m : Mem} {tr wt ct rm : Int} {vw v1 v2 : Value} {xs : List Ac} {b : List UInt8} {n0 : Nat} (hp : Part L0 m) (ht : Ten w0) (hvw : oneC vw = true ∧ cellsV vw = [vw]) (hv : RdV (fun i => i < m.next) m 5 v1 (xs.flatMap Ac.cells) xs.length) (hx : ∀ x ∈ xs,AcOk m x) (hn : xs.length ≤ 9223372036854775807)
    (hr : RdV (fun i => i < m.next) m 1 v2 (b.map byteV) b.length) (hb : b.length ≤ 9223372036854775807) (hm : n0 < 256) :
    AbC Tryz.prog w0 4 [.agg ⟨[.int .i64 tr,.int .i64 wt,.int .i64 ct,.int .i64 rm,vw]⟩,v1,v2,.int .u8 (n0 : Int)] m fun u _ => u = .bool true := by
  refine AbC_fn ok4 (by simp) ?_
  simp -implicitDefEqProofs (disch := first | assumption | omega) [rc4,ro4,wkB,rtZ,sbZ,dC,ev,fiZ,pkZ,putAt,bnd,slD,gZ0,gZ1,Mem.cell,Mem.row,coZ,crZ]
  refine SK_bxS (Sep.ofOld hp) (cs := [.int .i64 tr,.int .i64 wt,.int .i64 ct,.int .i64 rm,vw]) (by simp [wkB,rtZ,sbZ,dC,ev,fiZ,pkZ,putAt,bnd,slD,gZ0,gZ1,Mem.cell,Mem.row,coZ,crZ]) fun b1 m1 h1 _ _ => ?_
  simp -implicitDefEqProofs (disch := first | assumption | omega) [wkB,rtZ,sbZ,dC,ev,fiZ,pkZ,putAt,bnd,slD,gZ0,gZ1,Mem.cell,Mem.row,coZ,crZ]
  refine c_awakeH h1.pt ht fun m2 o2 => ?_
  have h2 := h1.old o2
  simp -implicitDefEqProofs (disch := first | assumption | omega) [wkB,rtZ,sbZ,dC,ev,fiZ,pkZ,putAt,bnd,slD,gZ0,gZ1,Mem.cell,Mem.row,coZ,crZ,rc4_4]
  refine SK_stS h2 0 rfl (o := 4) (vs := [.slice none 0 0]) (cs' := [.int .i64 tr,.int .i64 wt,.int .i64 ct,.int .i64 rm,.slice none 0 0]) (by simp [wkB,rtZ,sbZ,dC,ev,fiZ,pkZ,putAt,bnd,slD,gZ0,gZ1,Mem.cell,Mem.row,coZ,crZ]) (by simp [wkB,rtZ,sbZ,dC,ev,fiZ,pkZ,putAt,bnd,slD,gZ0,gZ1,Mem.cell,Mem.row,coZ,crZ]) (by simp) rfl rfl rfl fun m3 h3 _ => ?_
  have h3 : Sep m (fun i => i < m.next) m3 [(some b1,.own [.int .i64 tr,.int .i64 wt,.int .i64 ct,.int .i64 rm,.slice none 0 0] 26)] := h3
  obtain ⟨v1',k,hk,hkl,hsl,hvk,hbk⟩ := (hv.sep h3).sl.k2
  have hslen := (hv.sep h3).sl.slen
  have hmn : (if (2 : Int) < (xs.length : Int) then (2 : Int) else (xs.length : Int)) = (k : Int) := by split <;> omega
  have hmn2 : (if 2 < xs.length then (2 : Int) else (xs.length : Int)) = (k : Int) := by split <;> omega
  have hrv : RdV (fun i => i < m.next) m3 5 v1' ((xs.take k).flatMap Ac.cells) (xs.take k).length := ⟨hvk,fun i hi => (hv.sep h3).bl i (hbk i hi)⟩
  have hxr : ∀ x ∈ xs.take k,x.rng := fun x hx' => (hx x (List.mem_of_mem_take hx')).1
  simp -implicitDefEqProofs (disch := first | assumption | omega) [wkB,rtZ,sbZ,dC,ev,fiZ,pkZ,putAt,bnd,slD,gZ0,gZ1,Mem.cell,Mem.row,coZ,crZ,hslen,hmn,hmn2,hsl]
  refine c_lMake h3.pt hrv.sl (fun b hb => (hrv.bl b hb).1) (fun x hx' => (hx x (List.mem_of_mem_take hx')).old h3.toOld) (by omega) ((hr.sep h3).o) hb fun m4 es ims oe oi D h4 hM hoe hoi hI => ?_
  have h4 := h3.addO h4
  have hright := mkR_right hM
  have hEI := mkR_i hM hxr
  obtain ⟨hel,hil⟩ := mkR_len hM
  have hz := mkR_600 hM
  obtain ⟨L3,hL3⟩ : ∃ L : HL,L = (((oe,.own (es.flatMap En.cells) 56) :: (oi,.own (ims.flatMap fun x => [x.1]) 28) :: D) ++ [(some b1,.own [.int .i64 tr,.int .i64 wt,.int .i64 ct,.int .i64 rm,.slice none 0 0] 26)]) := ⟨_,rfl⟩
  have k4 : Sep m (fun i => i < m.next) m4 L3 := by rw [hL3]; exact h4
  have mcf : (some b1,Ent.own [.int .i64 tr,.int .i64 wt,.int .i64 ct,.int .i64 rm,.slice none 0 0] 26) ∈ L3 := by rw [hL3]; exact List.mem_append_right _ (List.mem_singleton.2 rfl)
  obtain ⟨hre,him⟩ := mk_read (D := D) k4 (by rw [hL3]; exact List.mem_append_left _ (List.mem_cons_self ..)) (by rw [hL3]; exact List.mem_append_left _ (List.mem_cons_of_mem _ (List.mem_cons_self ..))) (fun p hp => by rw [hL3]; exact List.mem_append_left _ (List.mem_cons_of_mem _ (List.mem_cons_of_mem _ hp))) hoe hoi hI hz
  clear h4 hL3
  have gcf := k4.mem mcf
  simp -implicitDefEqProofs (disch := first | assumption | omega) [wkB,rtZ,sbZ,dC,ev,fiZ,pkZ,putAt,bnd,slD,gZ0,gZ1,Mem.cell,Mem.row,coZ,crZ,gcf]
  refine c_hOfI (mb := m) k4.pt k4.base hre him hEI (by omega) (by omega) (fun x hx' => by have := hz x hx'; omega) fun m5 ihx xx sx wx Ex HPx h5 hokx hIx hBx hgx hbx _ _ _ _ => ?_
  have k5 := k4.addO h5
  have gcf5 := k5.mem (List.mem_append_right _ mcf)
  simp -implicitDefEqProofs (disch := first | assumption | omega) [wkB,rtZ,sbZ,dC,ev,fiZ,pkZ,putAt,bnd,slD,gZ0,gZ1,Mem.cell,Mem.row,coZ,crZ,gcf5]
  refine c_hOfI (mb := m) k5.pt k5.base (hre.sep h5).o ⟨(him.sl.sep h5).o,fun x hx' => ((him.im x hx').sep h5).o,him.sz⟩ hEI (by omega) (by omega) (fun x hx' => by have := hz x hx'; omega) fun m6 ihy xy sy wy Ey HPy h6 hoky hIy hBy hgy hby _ _ _ _ => ?_
  have k6 := (k5.addO h6).perm perm_2
  have heq : sy.ph = sx.ph ∧ sy.out = sx.out ∧ wy = wx := by
    by_cases hr0 : rightF es (ims.map (·.2)) = 0
    · obtain ⟨a1,a2,a3⟩ := hgx hr0
      obtain ⟨b1,b2,b3⟩ := hgy hr0
      exact ⟨b1.trans a1.symm,b2.trans a2.symm,b3.trans a3.symm⟩
    · obtain ⟨a1,a2,a3⟩ := hbx hr0
      obtain ⟨b1,b2,b3⟩ := hby hr0
      exact ⟨b1.trans a1.symm,b2.trans a2.symm,b3.trans a3.symm⟩
  obtain ⟨hph,hout,rfl⟩ := heq
  have hrem : dBin .rem (.int .u8 (n0 : Int)) (.int .u8 60) = some (.int .u8 ((n0 % 60 : Nat) : Int)) := rem_u8 (b := 60) (by omega)
  have hn60 : n0 % 60 < 60 := Nat.mod_lt _ (by omega)
  generalize n0 % 60 = n at *
  have wn : IntKind.i64.wrap (n : Int) = (n : Int) := w64 (by omega)
  have hb0 : BaseK m m := fun _ _ => rfl
  obtain ⟨EE,hEE⟩ : ∃ EE,Ey ++ (Ex ++ L3) = EE := ⟨_,rfl⟩
  rw [hEE] at k6
  simp -implicitDefEqProofs (disch := first | assumption | omega) [wkB,rtZ,sbZ,dC,ev,fiZ,pkZ,putAt,bnd,slD,gZ0,gZ1,Mem.cell,Mem.row,coZ,crZ]
  refine LoopW_of (fun k ts m' => ∃ (j : Nat) (sx sy : Ho) (xx xy : HoX) (w : Wk) (HPx HPy : HL) (all : List UInt8),j + k = n ∧ Sep m (fun i => i < m.next) m' (hoH ihx sx xx ++ ((hoH ihy sy xy ++ (EE ++ HPy)) ++ HPx)) ∧ HoOk sx xx ∧ HoOk sy xy ∧ QI m HPx sx w ∧ QI m HPy sy w ∧ HoB (10 + j) sx ∧ HoB (10 + j) sy ∧ sy.ph = sx.ph ∧ (j = 0 → sy.out = sx.out ∧ all = []) ∧ (0 < j → sx.out = [] ∧ all = sy.out) ∧ ts 3 = .int .u8 (n0 : Int) ∧ ts 11 = .pointer (some ⟨ihx,0,none⟩) ∧ ts 12 = .pointer (some ⟨ihy,0,none⟩) ∧ ts 13 = .string ⟨⟨all⟩⟩ ∧ ts 14 = .int .i64 (j : Int)) n ?_ ?_
  · exact ⟨0,sx,sy,xx,xy,wy,HPx,HPy,[],by omega,k6,hokx,hoky,hIx,hIy,hBx,hBy,hph,(fun _ => ⟨hout,rfl⟩),(fun h => by omega),by simp [frA_at],by simp,by simp,by simp,by simp⟩
  clear k6 hokx hoky hIx hIy hBx hBy hph hout hgx hbx hgy hby
  rintro k2 ts m7 K ⟨j,sx,sy,xx,xy,w,HPx,HPy,all,hj,h7,hokx,hoky,hIx,hIy,hBx,hBy,hph,ho0,ho1,t3,t11,t12,t13,t14⟩ hK
  by_cases hjn : j < n
  · have hj8 : (j : Int) < (n : Int) := by omega
    have hjw : IntKind.i64.wrap ((j : Int) + 1) = (j : Int) + 1 := w64 (by omega)
    have bx : HoB 1000000000 sx := ⟨by have := hBx.h; omega,by have := hBx.d; omega,by have := hBx.o; omega⟩
    have by_ : HoB 1000000000 sy := ⟨by have := hBy.h; omega,by have := hBy.d; omega,by have := hBy.o; omega⟩
    have qx := qStep_out sx w
    have qy := qStep_out sy w
    rw [hph] at qy
    have hol := qOut_len sx.ph w
    simp -implicitDefEqProofs (disch := first | assumption | omega) [rc4_1,rc4_0,wkB,rtZ,sbZ,dC,ev,fiZ,pkZ,putAt,bnd,slD,gZ0,gZ1,Mem.cell,Mem.row,coZ,crZ,t3,t11,t12,t14,hrem,wn,hj8]
    refine c_hTickI h7 hokx bx hIx hb0 fun m8 xx8 HPx8 h8 hokx8 hIx8 => ?_
    have h8' := h8.perm perm_xy
    simp -implicitDefEqProofs (disch := first | assumption | omega) [wkB,rtZ,sbZ,dC,ev,fiZ,pkZ,putAt,bnd,slD,gZ0,gZ1,Mem.cell,Mem.row,coZ,crZ,t12]
    refine c_hTickI h8' hoky by_ hIy hb0 fun m9 xy9 HPy9 h9 hoky9 hIy9 => ?_
    have h9' := h9.perm perm_xy
    simp -implicitDefEqProofs (disch := first | assumption | omega) [wkB,rtZ,sbZ,dC,ev,fiZ,pkZ,putAt,bnd,slD,gZ0,gZ1,Mem.cell,Mem.row,coZ,crZ,t11,t13]
    rw [hph] at hIy9
    refine c_hOut h9' hokx8 fun mA xA hA hokA => ?_
    obtain ⟨o,ho⟩ : ∃ o,(qStep sx w).out = o := ⟨_,rfl⟩
    rw [ho] at hA ⊢
    have hoA : xx8.oo = none → o.length = 0 := fun e => by have := hokx8.o e; rw [ho] at this; exact this
    have hbA : bstr mA (slV xx8.oo o.length 1) = some (.string ⟨⟨o⟩⟩) := SlR.txt (hA.slO 0 (k := o.length) (sz := 1) rfl (by simp) hoA).read
    have hall : all ++ o = (qStep sy w).out := by
      rw [qy.1,← ho,qx.1]
      by_cases hj0 : j = 0
      · obtain ⟨a1,a2⟩ := ho0 hj0
        rw [a1,a2,List.nil_append]
      · obtain ⟨a1,a2⟩ := ho1 (by omega)
        rw [a1,a2,List.nil_append]
    have hoy := hBy.o
    have hal : (all ++ o).length ≤ 100 := by rw [hall,qy.1,List.length_append]; omega
    have hcat := catB all o (by rw [List.length_append] at hal; omega)
    rw [hall] at hcat
    have hA := hA.tl
    simp -implicitDefEqProofs (disch := first | assumption | omega) [wkB,rtZ,sbZ,dC,ev,fiZ,pkZ,putAt,bnd,slD,gZ0,gZ1,Mem.cell,Mem.row,coZ,crZ,hbA,hcat,t11]
    refine c_hOut hA hokA fun mB xB hB hokB => ?_
    have hsl0 : slen (slV xA.oo 0 1) = some (.int .i64 0) := (hB.slO 0 (k := 0) (sz := 1) rfl rfl (fun _ => rfl)).slen
    have hB := hB.tl
    simp -implicitDefEqProofs (disch := first | assumption | omega) [wkB,rtZ,sbZ,dC,ev,fiZ,pkZ,putAt,bnd,slD,gZ0,gZ1,Mem.cell,Mem.row,coZ,crZ,hsl0,t14,hjw]
    refine hK (k2 - 1) _ _ (by omega) ⟨j + 1,{ qStep sx w with out := [] },qStep sy w,xB,xy9,qWk sx.ph w,HPx8,HPy9,(qStep sy w).out,by omega,hB,hokB,hoky9,⟨hIx8.q,hIx8.c⟩,hIy9,⟨by have := hBx.h; rw [← qx.2.2.1] at this; simp only; omega,by have := hBx.d; rw [← qx.2.2.2.1] at this; simp only; omega,by simp⟩,⟨by have := hBy.h; rw [qy.2.2.1]; omega,by have := hBy.d; rw [qy.2.2.2.1]; omega,by rw [qy.1,List.length_append]; omega⟩,?_,(fun h => by omega),(fun _ => ⟨rfl,rfl⟩),by simp [t3],by simp [t11],by simp [t12],by simp,by simp⟩
    show (qStep sy w).ph = (qStep sx w).ph
    rw [qy.2.1,qx.2.1]
  · have hj2 : j = n := by omega
    subst hj2
    have hj8 : ¬ (j : Int) < (j : Int) := by omega
    have h7' := h7.perm perm_xy
    have hend : ∀ (fr : Fr) (M : Mem) (xy2 : HoX) (all2 : List UInt8) (T : HL),Sep m (fun i => i < m.next) M (hoH ihy sy xy2 ++ T) → HoOk sy xy2 → all2 = sy.out → fr 12 = .pointer (some ⟨ihy,0,none⟩) → fr 13 = .string ⟨⟨all2⟩⟩ → AbW Tryz.prog w0 rc4_2 (bodyA [.mv (.tmp 8)] fun u _ => u = .bool true) fr M := by
      intro fr M xy2 all2 T hM hok ha f12 f13
      subst ha
      simp -implicitDefEqProofs (disch := first | assumption | omega) [rc4_2,wkB,rtZ,sbZ,dC,ev,fiZ,pkZ,putAt,bnd,slD,gZ0,gZ1,Mem.cell,Mem.row,coZ,crZ,f12,f13]
      refine c_hOut hM hok fun mA xA hA hokA => ?_
      have hbA : bstr mA (slV xy2.oo sy.out.length 1) = some (.string ⟨⟨sy.out⟩⟩) := SlR.txt (hA.slO 0 (k := sy.out.length) (sz := 1) rfl (by simp) hok.o).read
      have eLL : (sy.out == sy.out) = true := by simp
      have hA := hA.tl
      simp -implicitDefEqProofs (disch := first | assumption | omega) [wkB,rtZ,sbZ,dC,ev,fiZ,pkZ,putAt,bnd,slD,gZ0,gZ1,Mem.cell,Mem.row,coZ,crZ,hbA,eLL,f12,f13]
      refine c_hOut hA hokA fun mB xB hB hokB => ?_
      have hsl0 : slen (slV xA.oo 0 1) = some (.int .i64 0) := (hB.slO 0 (k := 0) (sz := 1) rfl rfl (fun _ => rfl)).slen
      simp -implicitDefEqProofs (disch := first | assumption | omega) [wkB,rtZ,sbZ,dC,ev,fiZ,pkZ,putAt,bnd,slD,gZ0,gZ1,Mem.cell,Mem.row,coZ,crZ,hsl0]
    by_cases hj0 : j = 0
    · subst hj0
      obtain ⟨a1,a2⟩ := ho0 rfl
      have w00 : IntKind.i64.wrap 0 = 0 := rfl
      simp -implicitDefEqProofs (disch := first | assumption | omega) [rc4_1,rc4_3,wkB,rtZ,sbZ,dC,ev,fiZ,pkZ,putAt,bnd,slD,gZ0,gZ1,Mem.cell,Mem.row,coZ,crZ,t3,t11,t14,hrem,wn,w00]
      refine c_hOut h7 hokx fun mA xA hA hokA => ?_
      have hbA : bstr mA (slV xx.oo sx.out.length 1) = some (.string ⟨⟨sx.out⟩⟩) := SlR.txt (hA.slO 0 (k := sx.out.length) (sz := 1) rfl (by simp) hokx.o).read
      have hA := hA.tl
      have hA' := hA.perm perm_xy
      simp -implicitDefEqProofs (disch := first | assumption | omega) [wkB,rtZ,sbZ,dC,ev,fiZ,pkZ,putAt,bnd,slD,gZ0,gZ1,Mem.cell,Mem.row,coZ,crZ,hbA]
      exact hend _ mA xy sx.out _ hA' hoky a1.symm (by simp [t12]) (by simp)
    · obtain ⟨a1,a2⟩ := ho1 (by omega)
      have hne : ((j : Int) == 0) = false := by simp; omega
      simp -implicitDefEqProofs (disch := first | assumption | omega) [rc4_1,rc4_3,wkB,rtZ,sbZ,dC,ev,fiZ,pkZ,putAt,bnd,slD,gZ0,gZ1,Mem.cell,Mem.row,coZ,crZ,t3,t11,t14,hrem,wn,hj8,hne]
      exact hend _ m7 xy all _ h7' hoky a2 (by simp [t12]) (by simp [t13])
end Go.Proofs.YtccjlggpiliilaaGreatDoor.Ab

set_option linter.unusedVariables false
set_option linter.unusedSimpArgs false
namespace Go.Proofs.YtccjlggpiliilaaGreatDoor.Ab
open Go Go.RowKit
set_option maxHeartbeats 4000000
set_option maxRecDepth 100000
theorem absT_actsH {m : Mem} {td : TD} {v : Value} (h : AbsT m td [v]) (hs : Fits (.sl (.recd [.sl (.int .u8),.int .u16,.int .u16,.int .u32,.int .u8])) td) :
    ∃ xs : List Ac,SlR m 5 v (xs.flatMap Ac.cells) xs.length ∧ (∀ x ∈ xs,AcOk m x) ∧ ∀ b,blk v = some b → b < m.next := by
  obtain ⟨l,xs,rfl,h1,h2,h3⟩ := absT_slice (f := Ac.cells) (z := 5) (R := fun d x => AcOk m x) acl (fun d c hf ha => by
    obtain ⟨l,rfl,hl,hfl⟩ := absT_recd ha hf
    obtain ⟨d1,r1,c1,e1,rfl,rfl,t1,f1,hl,hfl⟩ := absTs_cons hl hfl
    obtain ⟨d2,r2,c2,e2,rfl,rfl,t2,f2,hl,hfl⟩ := absTs_cons hl hfl
    obtain ⟨d3,r3,c3,e3,rfl,rfl,t3,f3,hl,hfl⟩ := absTs_cons hl hfl
    obtain ⟨d4,r4,c4,e4,rfl,rfl,t4,f4,hl,hfl⟩ := absTs_cons hl hfl
    obtain ⟨d5,r5,c5,e5,rfl,rfl,t5,f5,hl,hfl⟩ := absTs_cons hl hfl
    obtain ⟨rfl,rfl⟩ := absTs_nil hl hfl
    obtain ⟨v1,rfl⟩ := t1.one f1 (fun _ h => by cases h)
    obtain ⟨n2,rfl,rfl,w2⟩ := absT_int t2 f2
    obtain ⟨n3,rfl,rfl,w3⟩ := absT_int t3 f3
    obtain ⟨n4,rfl,rfl,w4⟩ := absT_int t4 f4
    obtain ⟨n5,rfl,rfl,w5⟩ := absT_int t5 f5
    obtain ⟨l1,ys,rfl,y1,y2,y3⟩ := absT_slice (f := fun b : UInt8 => [byteV b]) (z := 1) (R := fun _ _ => True) (fun _ => rfl) arg_u8 t1 f1
    rw [flat_one byteV] at y1
    have := absT_len t1
    exact ⟨⟨ys,v1,n2,n3,n4,n5⟩,rfl,⟨wf_u16 w2,wf_u16 w3,wf_u32 w4,wf_u8 w5⟩,y1,y3,by rw [y2.length]; exact this⟩) h hs
  exact ⟨xs,h1,fun x hx => by obtain ⟨_,_,hr⟩ := h2.right x hx; exact hr,h3⟩
theorem absT_bysB {m : Mem} {td : TD} {v v' : Value} {G : Loc} (h : AbsT m td [v]) (hs : Fits (.sl (.int .u8)) td) (hu : VR G v v') : ∃ bs : List UInt8,RdV (fun i => i < m.next) m 1 v (bs.map byteV) bs.length ∧ bs.length ≤ 9223372036854775807 := by
  obtain ⟨bs,c,d,l⟩ := absT_bys h hs
  exact ⟨bs,⟨c,fun i hi => ⟨d i hi,d i hi⟩⟩,Nat.le_trans (sl_max c hu) (by unfold maxLen; omega)⟩
def cfgShp : Shp := .recd [.recd [.int .i64,.int .i64],.int .i64,.int .i64,.sl (.recd [.str,.int .i64,.str,.sl (.recd [.str,.str]),.int .i64,.str,.int .i64])]
theorem absT_cfgH {m : Mem} {td : TD} {cs : List Value} (h : AbsT m td cs) (hf : Fits cfgShp td) : ∃ (tr wt ct rm : Int) (vw : Value),cs = [.int .i64 tr,.int .i64 wt,.int .i64 ct,.int .i64 rm,vw] ∧ oneC vw = true ∧ cellsV vw = [vw] := by
  obtain ⟨l0,rfl,k,f⟩ := absT_recd h hf
  obtain ⟨d1,r1,c1,e1,rfl,rfl,h1,g1,k,f⟩ := absTs_cons k f
  obtain ⟨d2,r2,c2,e2,rfl,rfl,h2,g2,k,f⟩ := absTs_cons k f
  obtain ⟨d3,r3,c3,e3,rfl,rfl,h3,g3,k,f⟩ := absTs_cons k f
  obtain ⟨d4,r4,c4,e4,rfl,rfl,h4,g4,k,f⟩ := absTs_cons k f
  obtain ⟨rfl,rfl⟩ := absTs_nil k f
  obtain ⟨l1,rfl,k1,f1⟩ := absT_recd h1 g1
  obtain ⟨d5,r5,c5,e5,rfl,rfl,h5,g5,k1,f1⟩ := absTs_cons k1 f1
  obtain ⟨d6,r6,c6,e6,rfl,rfl,h6,g6,k1,f1⟩ := absTs_cons k1 f1
  obtain ⟨rfl,rfl⟩ := absTs_nil k1 f1
  obtain ⟨a,rfl,rfl,w1⟩ := absT_int h5 g5
  obtain ⟨b,rfl,rfl,w2⟩ := absT_int h6 g6
  obtain ⟨c,rfl,rfl,w3⟩ := absT_int h2 g2
  obtain ⟨d,rfl,rfl,w4⟩ := absT_int h3 g3
  cases h4 with
  | sl l v cs z hs _ _ _ _ => exact ⟨a,b,c,d,v,rfl,hs.one⟩
  | int => simp [Fits] at g4
  | bool => simp [Fits] at g4
  | str => simp [Fits] at g4
  | recd => simp [Fits] at g4
def mactShp : Shp := .recd [.sl (.int .u8),.int .u16,.int .u16,.int .u32,.int .u8]
theorem l_HOutI {w0 : World} {m : Mem} {cs : List Value} {v1 v2 y1 y2 : Value} {G1 G2 : Loc} {t0 t1 t2 : TD} {n : Int} (hp : Part L0 m) (ht : Ten w0) (h0 : AbsT m t0 cs) (f0 : Fits cfgShp t0) (h1 : AbsT m t1 [v1]) (f1 : Fits (.sl mactShp) t1) (u1 : VR G1 v1 y1) (h2 : AbsT m t2 [v2]) (f2 : Fits (.sl (.int .u8)) t2) (u2 : VR G2 v2 y2) (w3 : (Lit.int .u8 n).wf = true) :
    AbC Tryz.prog w0 4 [.agg ⟨cs⟩,v1,v2,.int .u8 n] m fun u _ => u = .bool true := by
  obtain ⟨tr,wt,ct,rm,vw,rfl,hvw⟩ := absT_cfgH h0 f0
  obtain ⟨xs,a1,a2,a3⟩ := absT_actsH h1 f1
  obtain ⟨b2,r2,l2⟩ := absT_bysB h2 f2 u2
  have q3 := wf_u8 w3
  obtain ⟨n,rfl⟩ : ∃ k : Nat,n = (k : Int) := ⟨n.toNat,by omega⟩
  exact l_HOut hp ht hvw ⟨a1,fun i hi => ⟨a3 i hi,a3 i hi⟩⟩ a2 (Nat.le_trans (sl_max a1 u1) (by unfold maxLen; omega)) r2 l2 (by omega)
end Go.Proofs.YtccjlggpiliilaaGreatDoor.Ab

namespace Go.Proofs.YtccjlggpiliilaaGreatDoor.hostOut
open Go Go.ChangeShapes Go.WideShapes Go.ChangeAt Go.RowKit Go.Proofs.YtccjlggpiliilaaGreatDoor.Ab
set_option linter.unusedVariables false
theorem own : ownKnob Tryz.prog.godebug = none := by kernel_rfl
theorem laidOut : laidOutB Tryz.prog = true := by kernel_rfl
set_option maxRecDepth 100000 in
theorem contract (H : Type) (enc : TypeId × Value → H) (W : World) (base : Nat) (args : Array Value) (ds gs : List (DataW H)) (before : List MemPlace)
    (hval : ∀ (j : Nat) t v,Tryz.f4.params[j]? = some t → args[j]? = some v → Value.okWide Tryz.prog W .any base t v)
    (hW : DataW.Whole enc Tryz.prog Tryz.f4.params.toList Rows.hostOutSpec.vars false W args.toList ds gs before) (hL : laidMetH Tryz.prog Rows.hostOutRow.laid W) :
    Calls Tryz.prog 4 args W fun e W' => ∃ v,e = .returned v ∧ Rows.hostOutSpec.post enc Tryz.prog Tryz.f4 false true false false W args v W' := by
  have hW' := hW
  obtain ⟨hL',hLh⟩ := (show laidMet Tryz.prog (Rows.hostOutRow.laid.filter fun x => x.2.handleName?.isNone) W ∧ handlesMet Tryz.prog (Rows.hostOutRow.laid.filter fun x => x.2.handleName?.isSome) W from hL)
  obtain ⟨p,q,hA0,hV,rfl,hfz,hnd⟩ := hW
  have hA : DataW.TrodAll enc Tryz.prog W 0 (fun _ => true) true Tryz.f4.params.toList args.toList ds p := hA0
  rw [Tryz.params4] at hA hval
  obtain ⟨v0,vs0,d0,ds0,p0,q0,hargs,rfl,rfl,h0,r0⟩ := trodAll_cons hA
  obtain ⟨v1,vs1,d1,ds1,p1,q1,rfl,rfl,rfl,h1,r1⟩ := trodAll_cons r0
  obtain ⟨v2,vs2,d2,ds2,p2,q2,rfl,rfl,rfl,h2,r2⟩ := trodAll_cons r1
  obtain ⟨v3,vs3,d3,ds3,p3,q3,rfl,rfl,rfl,h3,r3⟩ := trodAll_cons r2
  obtain ⟨rfl,rfl,rfl⟩ := trodAll_nil r3
  obtain rfl : args = #[v0,v1,v2,v3] := by cases args; simp_all
  obtain ⟨rfl,rfl⟩ := trodVars_none hV
  obtain ⟨a0,rfl,sz0⟩ := okWide_struct Tryz.underlying26 (hval 0 26 v0 rfl rfl)
  have lt0 : ∀ x ∈ p0,x.block < W.heap.size := by obtain ⟨m,hm⟩ := h0; exact DataW.trod_lt m _ _ _ hm
  obtain ⟨a1,len1,cap1,rfl⟩ := okWide_slice Tryz.underlying27 (hval 1 27 v1 rfl rfl)
  have lt1 : ∀ x ∈ p1,x.block < W.heap.size := by obtain ⟨m,hm⟩ := h1; exact DataW.trod_lt m _ _ _ hm
  obtain ⟨a2,len2,cap2,rfl⟩ := okWide_slice Tryz.underlying28 (hval 2 28 v2 rfl rfl)
  have lt2 : ∀ x ∈ p2,x.block < W.heap.size := by obtain ⟨m,hm⟩ := h2; exact DataW.trod_lt m _ _ _ hm
  obtain ⟨a3,rfl⟩ := okWide_int Tryz.underlying5 (hval 3 5 v3 rfl rfl)
  have lt3 : ∀ x ∈ p3,x.block < W.heap.size := by obtain ⟨m,hm⟩ := h3; exact DataW.trod_lt m _ _ _ hm
  have s : St Tryz.prog W (G0 Tryz.prog) (toMem L0) W := St.laid globals_size L0_get laid_ok (laidIn hL' (List.mem_of_getElem? (i := 0) rfl) (List.mem_of_getElem? (i := 1) rfl) (List.mem_of_getElem? (i := 2) rfl))
  have hp : Part L0 (toMem L0) := Part.of L0_part (Nat.le_refl _) fun _ _ => rfl
  obtain ⟨G0,m0,x0,t0,g0,s0,u0,b0,f0,k0⟩ := arg_agg (k := 8) (s := cfgShp) (by kernel_rfl) h0 s
  have hp := g0.part hp
  obtain ⟨G1,m1,x1,t1,g1,s1,u1,b1,f1,k1⟩ := arg_one (k := 8) (s := (.sl mactShp)) (by kernel_rfl) h1 rfl s0
  have hp := g1.part hp
  have b0 := b0.mono g1.2.1 g1.2.2
  have u0 := u0.mono g1.1
  obtain ⟨G2,m2,x2,t2,g2,s2,u2,b2,f2,k2⟩ := arg_one (k := 8) (s := (.sl (.int .u8))) (by kernel_rfl) h2 rfl s1
  have hp := g2.part hp
  have b0 := b0.mono g2.2.1 g2.2.2
  have u0 := u0.mono g2.1
  have b1 := b1.mono g2.2.1 g2.2.2
  have u1 := u1.mono g2.1
  obtain ⟨G3,m3,x3,t3,g3,s3,u3,b3,f3,k3⟩ := arg_one (k := 8) (s := .int .u8) (by kernel_rfl) h3 rfl s2
  have hp := g3.part hp
  have b0 := b0.mono g3.2.1 g3.2.2
  have u0 := u0.mono g3.1
  have b1 := b1.mono g3.2.1 g3.2.2
  have u1 := u1.mono g3.1
  have b2 := b2.mono g3.2.1 g3.2.2
  have u2 := u2.mono g3.1
  refine (AbC_true s3 (.cons _ _ _ _ u0 (.cons _ _ _ _ u1 (.cons _ _ _ _ u2 (.cons _ _ _ _ u3 .nil)))) ((by obtain ⟨n3,hx3,-,w3⟩ := absT_int b3 f3; cases hx3; exact l_HOutI hp (ten_of hL' (List.mem_of_getElem? (i := 2) rfl)) b0 f0 b1 f1 u1 b2 f2 u2 w3)) (by kernel_rfl)).mono fun e W' ⟨he,bel⟩ => ?_
  subst he
  exact ⟨_,rfl,_,_,_,[],_,[],hW',trodAll_mk1 (shut_bool Tryz.underlying4 _),(trodAll_cons_mk (Below.trod laidOut (by kernel_rfl) (of_decide_eq_true (by kernel_rfl)) h0 bel lt0) (trodAll_cons_mk (Below.trod laidOut (by kernel_rfl) (of_decide_eq_true (by kernel_rfl)) h1 bel lt1) (trodAll_cons_mk (Below.trod laidOut (by kernel_rfl) (of_decide_eq_true (by kernel_rfl)) h2 bel lt2) (trodAll_cons_mk (Below.trod laidOut (by kernel_rfl) (of_decide_eq_true (by kernel_rfl)) h3 bel lt3) trodAll_mk0)))),rfl,bel.frame _,fun h => by cases h⟩
noncomputable def laidWorld (os : Os) : World :=
  let N := (World.settled Tryz.prog os).heap.size
  { World.holding Tryz.prog os ⟨#[],#[],[]⟩ with heap := (((((World.holding Tryz.prog os ⟨#[],#[],[]⟩).heap.modify 2 fun | .cells _ t frozen => .cells ⟨e32⟩ t frozen | o => o).modify 3 fun | .cells _ t frozen => .cells ⟨e64⟩ t frozen | o => o).modify 1 fun | .cells _ t frozen => .cells ⟨e10⟩ t frozen | o => o).modify 0 fun | .cells _ t frozen => .cells #[.iface 171 (.agg #[.pointer (some ⟨5,36,none⟩)])] t frozen | o => o) }
theorem laid_met (os : Os) : laidMetH Tryz.prog Rows.hostOutRow.laid ((laidWorld os).forCall (fun _ _ => 0) ⟨#[],#[(.agg #[.int .i64 0,.int .i64 0,.int .i64 0,.int .i64 0,.slice none 0 0] : Value),(.slice none 0 0 : Value),(.slice none 0 0 : Value),(.int .u8 0 : Value)],[]⟩).memory :=
  laidMetH_of_parts (laidMet_of_run' 8 (by kernel_rfl) (by kernel_rfl)) (by kernel_rfl)
theorem reads (os : Os) {H : Type} (enc : TypeId × Value → H) : ∃ places,DataW.whole enc Tryz.prog ((laidWorld os).forCall (fun _ _ => 0) ⟨#[],#[(.agg #[.int .i64 0,.int .i64 0,.int .i64 0,.int .i64 0,.slice none 0 0] : Value),(.slice none 0 0 : Value),(.slice none 0 0 : Value),(.int .u8 0 : Value)],[]⟩).memory Tryz.f4.params.toList Rows.hostOutSpec.vars false [(.agg #[.int .i64 0,.int .i64 0,.int .i64 0,.int .i64 0,.slice none 0 0] : Value),(.slice none 0 0 : Value),(.slice none 0 0 : Value),(.int .u8 0 : Value)] 8 = some ([.agg [.agg [.lit (.int .i64 0),.lit (.int .i64 0)],.lit (.int .i64 0),.lit (.int .i64 0),.nil],.nil,.nil,.lit (.int .u8 0)],[],places) :=
  ⟨[],by kernel_rfl⟩
set_option maxRecDepth 100000 in
theorem lifted (os : Os) (started : os.Started) (H : Type) (enc : TypeId × Value → H) (F : Stop.Interp) :
    ReturnsInHanded {} Tryz.checked os 4 .any ((OpenSpec.ofChange Rows.hostOutSpec).preRow enc Tryz.prog Tryz.f4 Rows.hostOutRow.domain false Rows.hostOutRow.laid) (((OpenSpec.ofChange Rows.hostOutSpec).at F).post enc Tryz.prog Tryz.f4 false true false false) := by
  obtain ⟨places,hx⟩ := reads os enc
  refine returnsInHanded_of_row (C := Tryz.checked) (s := (OpenSpec.ofChange Rows.hostOutSpec)) own started (by kernel_rfl) Tryz.func4
    (witness_row_at (enc := enc) (C := Tryz.checked) false (laidWorld os) #[(.agg #[.int .i64 0,.int .i64 0,.int .i64 0,.int .i64 0,.slice none 0 0] : Value),(.slice none 0 0 : Value),(.slice none 0 0 : Value),(.int .u8 0 : Value)] rfl (by kernel_rfl) (by kernel_rfl) (by kernel_rfl)
      (OpenSpec.preRow_of_cond 8 hx (by kernel_rfl) (fun k hk => by cases hk) (by kernel_rfl) (laid_met os))) ?_
  intro W base args ds gs before hval hW _ _ _ hL _ _
  exact contract H enc W base args ds gs before hval hW hL
theorem over : Rows.HostOutSaid :=
  OpenClaim.holds_of_cond 4 Tryz.f4 rfl rfl rfl rfl rfl rfl rfl ⟨rfl,rfl,rfl,rfl,rfl⟩ rfl rfl rfl rfl rfl (by kernel_rfl) Tryz.func4 (by kernel_rfl)
    (of_decide_eq_true (by kernel_rfl)) (by unfold Func.isWrapper; first | (rw [if_pos (by decide +kernel)]; kernel_rfl) | (rw [if_neg (by decide +kernel)]; exact ⟨rfl,rfl⟩))
    (fun os started H enc _ F => by rw [OpenClaim.pre_eq_preRow]; exact lifted os started H enc F)
theorem plain (f : FuncId) (fn : Func) (hf : Tryz.pinned.checked.prog.funcNamed "lifeline/lifelinelaw21.HostOut" = some f) (hfn : Tryz.pinned.checked.prog.funcs[f]? = some fn) :
    true = Tryz.pinned.checked.prog.looks [] ∧ ∀ (j : Nat) t,fn.params[j]? = some t → Tryz.pinned.checked.prog.wantsStandIn t = false := by
  obtain rfl : f = 4 := Option.some.inj ((show Tryz.prog.funcNamed "lifeline/lifelinelaw21.HostOut" = some 4 by kernel_rfl).symm.trans hf) |>.symm
  obtain rfl : fn = Tryz.f4 := (Option.some.inj (Tryz.func4.symm.trans hfn)).symm
  refine ⟨by kernel_rfl,fun j t ht => ?_⟩
  rw [Tryz.params4] at ht
  have hall : ∀ t ∈ [26,27,28,5],Tryz.prog.wantsStandIn t = false := by
    intro t ht
    simp only [List.mem_cons,List.mem_nil_iff,or_false] at ht
    rcases ht with rfl | rfl | rfl | rfl <;> kernel_rfl
  exact hall t (by simpa using Array.mem_of_getElem? ht)
theorem proved : Rows.HostOutCardSaid :=
  Claim7.holds_tied_plain_at .later [] _ _ _ _ over (fun _ h => by cases h) (by kernel_rfl) (fun _ h => by cases h) hostOut_row_tie rfl ⟨rfl,rfl⟩ (by kernel_rfl) rfl plain (by kernel_rfl)
#print axioms proved
end Go.Proofs.YtccjlggpiliilaaGreatDoor.hostOut
