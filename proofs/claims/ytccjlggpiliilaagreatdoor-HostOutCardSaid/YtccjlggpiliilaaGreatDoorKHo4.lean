/- Parts of a proof, put together: A dialogue that goes on (of the dialogues' texts, what the host needs). -/
import Derived.Test.YtccjlggpiliilaaGreatDoorKHo3
import Derived.Shelf.Strconv.Itoa1
import Derived.Shelf.LaysM
import Derived.Shelf.Strconv.Itoa2
import Derived.Shelf.Strconv.Itoa3
import Derived.Shelf.Strings.Search1
import Derived.Test.YtccjlggpiliilaaGreatDoorProg
import Derived.Lib.AppendIntMem
set_option linter.unusedVariables false
set_option linter.unusedSimpArgs false
namespace Go.Proofs.YtccjlggpiliilaaGreatDoor.Ab
open Go Go.RowKit
set_option maxHeartbeats 4000000
set_option maxRecDepth 100000
theorem getL {L : List Value} {k : Nat} {x : Value} (h : L[k]? = some x) : ∀ hk : k < L.length,L[k]'hk = x := fun hk => by
  rw [List.getElem?_eq_getElem hk] at h
  exact Option.some.inj h
theorem SK_stv {P : Program} {w0 : World} {ts : Fr} {m : Mem} {R : Value → Mem → Prop} {n i o : Nat} {p x : Operand} {cs vs : List Value} {e : TypeId} (hp : ev ts p = .pointer (some ⟨i,o,none⟩)) (hm : m.get i = .own cs e) (hv : cellsV (ev ts x) = vs) (h1 : o + n ≤ cs.length) (h2 : vs.length = n) (h3 : vs.all oneC = true)
    (hR : R undef (m.set i (.own (putAt cs o vs) e))) : SK P w0 (.e (.st n p x)) ts m R := by
  subst hv
  exact SK_st hp hm h1 h2 h3 hR
structure Arm where
  pat : List UInt8
  to : List UInt8
def Arm.cells (a : Arm) : List Value := [.string ⟨⟨a.pat⟩⟩,.string ⟨⟨a.to⟩⟩]
structure DS where
  lb : List UInt8
  kd : Int
  tx : List UInt8
  arms : List Arm
  n : Int
  to : List UInt8
  pl : Int
def dsC (d : DS) (av : Value) : List Value := [.string ⟨⟨d.lb⟩⟩,.int .i64 d.kd,.string ⟨⟨d.tx⟩⟩,av,.int .i64 d.n,.string ⟨⟨d.to⟩⟩,.int .i64 d.pl]
theorem SK_stm {P : Program} {w0 : World} {ts : Fr} {m M : Mem} {R : Value → Mem → Prop} {n i o : Nat} {p x : Operand} {cs vs : List Value} {e : TypeId} (hp : ev ts p = .pointer (some ⟨i,o,none⟩)) (hm : m.get i = .own cs e) (hv : cellsV (ev ts x) = vs) (h1 : o + n ≤ cs.length) (h2 : vs.length = n) (h3 : vs.all oneC = true)
    (hM : m.set i (.own (putAt cs o vs) e) = M) (hR : R undef M) : SK P w0 (.e (.st n p x)) ts m R := by
  subst hM
  exact SK_stv hp hm hv h1 h2 h3 hR
theorem Bld.keep {base m m' : Mem} {i : Nat} {bs : List UInt8} (h : Bld base m i bs) (o : Old m m') : Bld base m' i bs := by
  obtain ⟨h1,h2,h3,pa,ob,h4,h5,h6,hz,h7⟩ := h
  refine ⟨h1.trans o,h2,Nat.lt_of_lt_of_le h3 o.1,pa,ob,by rw [o.2 _ h3]; exact h4,h5,h6.keep o.1 fun b hb => o.2 b ?_,hz,h7⟩
  subst hb
  exact h6.lt
abbrev DV := DS × Value
def vC (x : DV) : List Value := dsC x.1 x.2
theorem vC_len (x : DV) : (vC x).length = 7 := rfl
structure ArmV (m : Mem) (x : DV) : Prop where
  sl : SlR m 2 x.2 (x.1.arms.flatMap Arm.cells) x.1.arms.length
  bl : ∀ b,blk x.2 = some b → b < m.next
theorem ArmV.old {m m' : Mem} {x : DV} (h : ArmV m x) (o : Old m m') : ArmV m' x := ⟨h.sl.keep fun b hb => o.2 b (h.bl b hb),fun b hb => Nat.lt_of_lt_of_le (h.bl b hb) o.1⟩
theorem SlR.one {m : Mem} {sz n : Nat} {v : Value} {cs : List Value} (h : SlR m sz v cs n) : oneC v = true ∧ cellsV v = [v] := by
  rcases h.2 with ⟨-,h | h⟩ | ⟨i,o,L,h,-⟩ <;> rw [h] <;> exact ⟨rfl,rfl⟩
structure DsV (m : Mem) (v : Value) (l : List DV) : Prop where
  sl : SlR m 7 v (l.flatMap vC) l.length
  bl : ∀ b,blk v = some b → b < m.next
  ar : ∀ x ∈ l,ArmV m x
theorem DsV.old {m m' : Mem} {v : Value} {l : List DV} (h : DsV m v l) (o : Old m m') : DsV m' v l := ⟨h.sl.keep fun b hb => o.2 b (h.bl b hb),fun b hb => Nat.lt_of_lt_of_le (h.bl b hb) o.1,fun x hx => (h.ar x hx).old o⟩
theorem rem_u8 {k b : Nat} (hb : 0 < b) : dBin .rem (.int .u8 (k : Int)) (.int .u8 (b : Int)) = some (.int .u8 ((k % b : Nat) : Int)) := by
  rw [dBin_rem (by omega),Int.tmod_eq_emod_of_nonneg (by omega)]
  rfl
def findN (s : List UInt8) : List DV → Nat → Int
  | [],_ => -1
  | x :: l,k => if x.1.lb = s ∧ s ≠ [] then (k : Int) else findN s l (k + 1)
theorem findN_at {s : List UInt8} {l : List DV} {j : Nat} (h : j < l.length) : findN s (l.drop j) j = if l[j].1.lb = s ∧ s ≠ [] then (j : Int) else findN s (l.drop (j + 1)) (j + 1) := by
  rw [List.drop_eq_getElem_cons h]
  rfl
theorem c_dFind {w0 : World} {m : Mem} {v : Value} {l : List DV} {s : List UInt8} {Q : Value → Mem → Prop} (hv : DsV m v l) (hl : l.length ≤ 1000000) (hq : ∀ m',Old m m' → Q (.int .i64 (findN s l 0)) m') : AbC Tryz.prog w0 44 [v,.string ⟨⟨s⟩⟩] m Q := by
  refine AbC_fn ok44 (by simp) ?_
  simp -implicitDefEqProofs (disch := first | assumption | (simp only [wnA]; done) | (simp only [wnA]; omega) | omega) [rc44,ro44,wkA,rtZ,sbZ,dC,ev,fiZ,pkZ,putAt,bnd,slD,gZ0,gZ1,dR_sl,Mem.cell,Mem.row,wmA,hv.sl.slen]
  refine LoopW_of (fun k ts m' => ∃ j,j + k = l.length ∧ Old m m' ∧ ts 1 = .string ⟨⟨s⟩⟩ ∧ ts 7 = v ∧ ts 8 = .int .i64 (l.length : Nat) ∧ ts 9 = .int .i64 (j : Nat) ∧ findN s (l.drop j) j = findN s l 0) l.length ?_ ?_
  · exact ⟨0,by omega,Old.refl m,by simp [frA_at],by simp [frA_at],by simp,by simp,rfl⟩
  · rintro k ts m1 K ⟨j,hj,o1,t1,t7,t8,t9,hf⟩ hK
    simp -implicitDefEqProofs (disch := first | assumption | (simp only [wnA]; done) | (simp only [wnA]; omega) | omega) [rc44_1,wkA,rtZ,sbZ,dC,ev,fiZ,pkZ,putAt,bnd,slD,gZ0,gZ1,dR_sl,Mem.cell,Mem.row,wmA,t8,t9]
    by_cases hjl : j < l.length
    · have hv1 := hv.old o1
      obtain ⟨bi,bo,L,hvv,hL,hLl,hLt,-⟩ := hv1.sl.at hjl
      rw [flat_at vC_len l (List.getElem?_eq_getElem hjl)] at hLt
      rw [findN_at hjl] at hf
      obtain ⟨x,hx⟩ : ∃ x,l[j] = x := ⟨_,rfl⟩
      have hone := (hv1.ar x (by rw [← hx]; exact List.getElem_mem hjl)).sl.one
      rw [hx] at hLt hf
      rw [hvv] at t7
      have hle : bo + j * 7 + 7 ≤ L.length := by omega
      have hjw : IntKind.i64.wrap ((j : Int) + 1) = ((j + 1 : Nat) : Int) := by rw [w64 (by omega)]; omega
      obtain ⟨M,hM⟩ : ∃ M,(m1.push (.own [.string ⟨#[]⟩,.int .i64 0,.string ⟨#[]⟩,.slice none 0 0,.int .i64 0,.string ⟨#[]⟩,.int .i64 0] 101)).set m1.next (.own (putAt [.string ⟨#[]⟩,.int .i64 0,.string ⟨#[]⟩,.slice none 0 0,.int .i64 0,.string ⟨#[]⟩,.int .i64 0] 0 (vC x)) 101) = M := ⟨_,rfl⟩
      have oM : Old m1 M := by subst hM; exact ((Old.refl m1).push _).set (Nat.le_refl _) _
      have gM : M.get m1.next = .own (dsC x.1 x.2) 101 := by subst hM; rw [Mem.set_same]; rfl
      obtain ⟨⟨lb,kd,tx,arms,n,to,pl⟩,av⟩ := x
      have gx : M.get m1.next = .own [.string ⟨⟨lb⟩⟩,.int .i64 kd,.string ⟨⟨tx⟩⟩,av,.int .i64 n,.string ⟨⟨to⟩⟩,.int .i64 pl] 101 := gM
      have hLt : (L.drop (bo + j * 7)).take 7 = [.string ⟨⟨lb⟩⟩,.int .i64 kd,.string ⟨⟨tx⟩⟩,av,.int .i64 n,.string ⟨⟨to⟩⟩,.int .i64 pl] := hLt
      simp only at hf
      simp -implicitDefEqProofs (disch := first | assumption | (simp only [wnA]; done) | (simp only [wnA]; omega) | omega) [hjl,rc44_0,wkA,rtZ,sbZ,dC,ev,fiZ,pkZ,putAt,bnd,slD,gZ0,gZ1,dR_sl,Mem.cell,Mem.row,wmA,t1,t7,t8,t9,sidx_at,hL,hLt,hle]
      refine SK_stm (i := m1.next) (o := 0) (vs := vC (⟨lb,kd,tx,arms,n,to,pl⟩,av)) (cs := [.string ⟨#[]⟩,.int .i64 0,.string ⟨#[]⟩,.slice none 0 0,.int .i64 0,.string ⟨#[]⟩,.int .i64 0]) (e := 101) (M := M) (by simp [wkA,rtZ,sbZ,dC,ev,fiZ,pkZ,putAt,bnd,slD,gZ0,gZ1,dR_sl]) (by simp -implicitDefEqProofs (disch := first | assumption | (simp only [wnA]; done) | (simp only [wnA]; omega) | omega) [wkA,rtZ,sbZ,dC,ev,fiZ,pkZ,putAt,bnd,slD,gZ0,gZ1,dR_sl,Mem.cell,Mem.row,wmA]) (by simp [wkA,rtZ,sbZ,dC,ev,fiZ,pkZ,putAt,bnd,slD,gZ0,gZ1,dR_sl,vC,dsC]) (by simp) rfl (by simp only [vC,dsC,List.all_cons,List.all_nil,hone.1]; rfl) hM ?_
      clear hM
      by_cases h1 : lb = s
      · by_cases h2 : s = []
        · subst h1 h2
          rw [if_neg (by simp)] at hf
          simp -implicitDefEqProofs (disch := first | assumption | (simp only [wnA]; done) | (simp only [wnA]; omega) | omega) [wkA,rtZ,sbZ,dC,ev,fiZ,pkZ,putAt,bnd,slD,gZ0,gZ1,dR_sl,Mem.cell,Mem.row,wmA,gx,t1,t9,hjw]
          exact hK (k - 1) _ _ (by omega) ⟨j + 1,by omega,o1.trans oM,by simp [t1],by simp [t7,hvv],by simp [t8],by simp,hf⟩
        · rw [if_pos ⟨h1,h2⟩] at hf
          have hb0 : s.isEmpty = false := by cases s <;> simp at h2 ⊢
          simp -implicitDefEqProofs (disch := first | assumption | (simp only [wnA]; done) | (simp only [wnA]; omega) | omega) [wkA,rtZ,sbZ,dC,ev,fiZ,pkZ,putAt,bnd,slD,gZ0,gZ1,dR_sl,Mem.cell,Mem.row,wmA,gx,t1,t9,hjw,h1,hb0,h2]
          rw [hf]
          exact hq M (o1.trans oM)
      · rw [if_neg (fun h => h1 h.1)] at hf
        have hb1 : (lb == s) = false := by simpa using h1
        simp -implicitDefEqProofs (disch := first | assumption | (simp only [wnA]; done) | (simp only [wnA]; omega) | omega) [wkA,rtZ,sbZ,dC,ev,fiZ,pkZ,putAt,bnd,slD,gZ0,gZ1,dR_sl,Mem.cell,Mem.row,wmA,gx,t1,t9,hjw,hb1]
        exact hK (k - 1) _ _ (by omega) ⟨j + 1,by omega,o1.trans oM,by simp [t1],by simp [t7,hvv],by simp [t8],by simp,hf⟩
    · have hjj : j = l.length := by omega
      subst hjj
      rw [List.drop_length] at hf
      simp -implicitDefEqProofs (disch := first | assumption | (simp only [wnA]; done) | (simp only [wnA]; omega) | omega) [hjl,wkA,rtZ,sbZ,dC,ev,fiZ,pkZ,putAt,bnd,slD,gZ0,gZ1,dR_sl,Mem.cell,Mem.row,wmA,rc44_2]
      have := hq m1 o1
      rw [← hf] at this
      exact this
theorem quo_u8 {k b : Nat} (hb : 0 < b) (hk : k < 256) : dBin .quo (.int .u8 (k : Int)) (.int .u8 (b : Int)) = some (.int .u8 ((k / b : Nat) : Int)) := by
  have h : k / b ≤ k := Nat.div_le_self _ _
  have e : (k : Int).tdiv (b : Int) = ((k / b : Nat) : Int) := by rw [Int.tdiv_eq_ediv_of_nonneg (by omega)]; rfl
  have e2 : IntKind.u8.wrap ((k / b : Nat) : Int) = ((k / b : Nat) : Int) := by
    generalize k / b = q at *
    simp only [IntKind.wrap,IntKind.bits,IntKind.signed]
    simp
    omega
  show (if (IntKind.u8 = IntKind.u8) then (if (b : Int) = 0 then none else some (Value.int .u8 (IntKind.u8.wrap ((k : Int).tdiv (b : Int))))) else none) = _
  rw [if_pos rfl,if_neg (by omega),e,e2]
structure St4 where
  a : Int
  b : Int
  c : Int
  d : Int
def St4.cells (s : St4) : List Value := [.int .u64 s.a,.int .u64 s.b,.int .u64 s.c,.int .u64 s.d]
def St4.at (s : St4) (k : Nat) : Int := if k = 0 then s.a else if k = 1 then s.b else if k = 2 then s.c else s.d
def hasB (s : St4) (c : UInt8) : Bool := IntKind.u64.wrap ((((s.at (c.toNat / 64)).fdiv (2 ^ min (c.toNat % 64) IntKind.u64.bits) % 2 ^ IntKind.u64.bits).toNat &&& 1 % 2 ^ IntKind.u64.bits : Nat) : Int) == 1
theorem c_rHas {w0 : World} {m : Mem} {s : St4} {c : UInt8} {Q : Value → Mem → Prop} (hq : ∀ m',Old m m' → Q (.bool (hasB s c)) m') : AbC Tryz.prog w0 96 [.agg ⟨s.cells⟩,.int .u8 (c.toNat : Int)] m Q := by
  refine AbC_fn ok96 (by simp) ?_
  have hc := c.toNat_lt
  have q1 : dBin .quo (.int .u8 (c.toNat : Int)) (.int .u8 64) = some (.int .u8 ((c.toNat / 64 : Nat) : Int)) := quo_u8 (b := 64) (by omega) (by omega)
  have q2 : dBin .rem (.int .u8 (c.toNat : Int)) (.int .u8 64) = some (.int .u8 ((c.toNat % 64 : Nat) : Int)) := rem_u8 (b := 64) (by omega)
  have q3 : ∀ x : Int,dBin .shr (.int .u64 x) (.int .u8 ((c.toNat % 64 : Nat) : Int)) = some (.int .u64 (x.fdiv (2 ^ (min (c.toNat % 64) IntKind.u64.bits)))) := fun x => by
    have : ¬ ((c.toNat % 64 : Nat) : Int) < 0 := by omega
    simp only [dBin,this,if_false,Int.toNat_natCast]
  have q4 : ∀ x : Int,dBin .and (.int .u64 x) (.int .u64 1) = some (.int .u64 (IntKind.u64.wrap (((x % 2 ^ IntKind.u64.bits).toNat &&& 1 % 2 ^ IntKind.u64.bits : Nat) : Int))) := fun x => by simp [dBin]
  have q5 : ∀ x : Int,dBin .eql (.int .u64 x) (.int .u64 1) = some (.bool (x == 1)) := fun x => rfl
  have hd : c.toNat / 64 < 4 := by omega
  unfold hasB at hq
  obtain ⟨a,b,c2,d⟩ := s
  generalize c.toNat / 64 = p at *
  generalize c.toNat % 64 = r at *
  rcases (show p = 0 ∨ p = 1 ∨ p = 2 ∨ p = 3 by omega) with rfl | rfl | rfl | rfl
  all_goals
    simp only [St4.at,if_true,if_false,Nat.reduceEqDiff,Nat.one_ne_zero,Nat.succ_ne_zero] at hq
    simp only [Int.cast_ofNat_Int,Int.ofNat_zero,Int.ofNat_one] at q1
    simp -implicitDefEqProofs (disch := first | assumption | (simp only [wnA]; done) | (simp only [wnA]; omega) | omega) [rc96,ro96,St4.cells,wkA,rtZ,sbZ,dC,ev,fiZ,pkZ,putAt,bnd,slD,gZ0,gZ1,dR_sl,Mem.cell,Mem.row,wmA,q1,q2,q3,q4,q5]
    exact hq _ ((Old.refl m).push _)
structure Tab where
  sets : List St4
  next : List (List Bool)
  first : List Bool
  last : List Bool
  emp : Bool
def Tab.n (T : Tab) : Nat := T.sets.length
theorem st4_len (s : St4) : s.cells.length = 4 := rfl
structure TabV (X : Nat → Prop) (m : Mem) (it : Nat) (T : Tab) : Prop where
  ex : ∃ (sv nv fv lv : Value) (rs : List (Value × List Bool)),m.get it = .own [sv,nv,fv,lv,.bool T.emp] 210 ∧ RdV X m 4 sv (T.sets.flatMap St4.cells) T.sets.length ∧ rs.map Prod.snd = T.next ∧ RdV X m 1 nv (rs.map Prod.fst) rs.length ∧ (∀ r ∈ rs,RdV X m 1 r.1 (r.2.map .bool) r.2.length) ∧ RdV X m 1 fv (T.first.map .bool) T.first.length ∧ RdV X m 1 lv (T.last.map .bool) T.last.length
  lt : it < m.next ∧ X it
  wf : T.next.length = T.n ∧ (∀ r ∈ T.next,r.length = T.n) ∧ T.first.length = T.n ∧ T.last.length = T.n ∧ T.n ≤ 1000
theorem TabV.keep {X : Nat → Prop} {m m' : Mem} {it : Nat} {T : Tab} (h : TabV X m it T) (k : Keeps X m m') : TabV X m' it T := by
  obtain ⟨sv,nv,fv,lv,rs,g,h1,h2,h3,h4,h5,h6⟩ := h.ex
  exact ⟨⟨sv,nv,fv,lv,rs,(k.2 it h.lt.1 h.lt.2).trans g,h1.keep k,h2,h3.keep k,fun r hr => (h4 r hr).keep k,h5.keep k,h6.keep k⟩,⟨Nat.lt_of_lt_of_le h.lt.1 k.1,h.lt.2⟩,h.wf⟩
theorem TabV.mono {X Y : Nat → Prop} {m : Mem} {it : Nat} {T : Tab} (h : TabV X m it T) (hy : ∀ i,i < m.next → X i → Y i) : TabV Y m it T := by
  obtain ⟨sv,nv,fv,lv,rs,g,h1,h2,h3,h4,h5,h6⟩ := h.ex
  exact ⟨⟨sv,nv,fv,lv,rs,g,h1.mono hy,h2,h3.mono hy,fun r hr => (h4 r hr).mono hy,h5.mono hy,h6.mono hy⟩,⟨h.lt.1,hy _ h.lt.1 h.lt.2⟩,h.wf⟩
def orJ (T : Tab) (at_ : List Bool) (k : Nat) (is : Bool) : Nat → Bool
  | 0 => is
  | j + 1 => orJ T at_ k is j || (decide (j < T.n) && at_.getD j false && (T.next.getD j []).getD k false)
def tabK (T : Tab) (at_ : List Bool) (c : UInt8) (b : Bool) (k : Nat) : Bool := if hasB (T.sets.getD k ⟨0,0,0,0⟩) c then orJ T at_ k (b && T.first.getD k false) at_.length else false
def stepB (T : Tab) (at_ : List Bool) (c : UInt8) (b : Bool) : List Bool := (List.range T.n).map (tabK T at_ c b)
def stepJ (T : Tab) (at_ : List Bool) (c : UInt8) (b : Bool) (j : Nat) : List Bool := (List.range j).map (tabK T at_ c b) ++ List.replicate (T.n - j) false
theorem stepJ_len {T : Tab} {at_ : List Bool} {c : UInt8} {b : Bool} {j : Nat} (h : j ≤ T.n) : (stepJ T at_ c b j).length = T.n := by simp [stepJ]; omega
theorem stepJ_succ {T : Tab} {at_ : List Bool} {c : UInt8} {b : Bool} {j : Nat} (h : j < T.n) : stepJ T at_ c b (j + 1) = (stepJ T at_ c b j).take j ++ tabK T at_ c b j :: (stepJ T at_ c b j).drop (j + 1) := by
  have e : T.n - j = (T.n - (j + 1)) + 1 := by omega
  unfold stepJ
  rw [e,List.replicate_succ,List.range_succ,List.map_append]
  have h1 : ((List.range j).map (tabK T at_ c b)).length = j := by simp
  rw [List.take_append_of_le_length (by omega),List.take_of_length_le (by omega),List.drop_append,List.drop_of_length_le (by omega),h1]
  simp
theorem boolAt {X : Nat → Prop} {m : Mem} {v : Value} {l : List Bool} {j : Nat} (h : RdV X m 1 v (l.map .bool) l.length) (hj : j < l.length) : ∃ i o L,v = .slice (some ⟨i,o,none⟩) l.length 1 ∧ (m.get i).cells? = some L ∧ L[o + j]? = some (.bool (l.getD j false)) ∧ o + j < L.length := by
  obtain ⟨i,o,L,h1,h2,h3,-,h5⟩ := h.sl.at hj
  have h6 := h5 0 (by omega)
  simp only [Nat.mul_one,Nat.add_zero,List.getElem?_map,List.getElem?_eq_getElem hj,Option.map_some] at h6
  refine ⟨i,o,L,h1,h2,?_,by omega⟩
  rw [h6,List.getD,List.getElem?_eq_getElem hj]
  rfl
theorem c_nEnds {w0 : World} {X : Nat → Prop} {m : Mem} {it : Nat} {T : Tab} {av : Value} {l : List Bool} {Q : Value → Mem → Prop} (hT : TabV X m it T) (ha : RdV X m 1 av (l.map .bool) l.length) (hl : l.length ≤ 1000) (hq : Q (.bool ((List.range l.length).any fun k => l.getD k false && (decide (k < T.n) && T.last.getD k false))) m) :
    AbC Tryz.prog w0 78 [.pointer (some ⟨it,0,none⟩),av] m Q := by
  refine AbC_fn ok78 (by simp) ?_
  obtain ⟨sv,nv,fv,lv,rs,g,h1,h2,h3,h4,h5,h6⟩ := hT.ex
  have hsl := ha.sl.slen
  have hll := hT.wf.2.2.2.1
  simp -implicitDefEqProofs (disch := first | assumption | (simp only [wnA]; done) | (simp only [wnA]; omega) | omega) [rc78,ro78,wkA,rtZ,sbZ,dC,ev,fiZ,pkZ,putAt,bnd,slD,gZ0,gZ1,dR_sl,Mem.cell,Mem.row,wmA,hsl]
  refine LoopW_of (fun k ts m' => ∃ j,j + k = l.length ∧ m' = m ∧ ((List.range j).any fun k => l.getD k false && (decide (k < T.n) && T.last.getD k false)) = false ∧ ts 0 = .pointer (some ⟨it,0,none⟩) ∧ ts 7 = av ∧ ts 8 = .int .i64 (l.length : Nat) ∧ ts 9 = .int .i64 (j : Nat)) l.length ?_ ?_
  · exact ⟨0,by omega,rfl,rfl,by simp [frA_at],by simp,by simp,by simp⟩
  · rintro k ts m1 K ⟨j,hj,rfl,hf,t0,t7,t8,t9⟩ hK
    simp -implicitDefEqProofs (disch := first | assumption | (simp only [wnA]; done) | (simp only [wnA]; omega) | omega) [rc78_1,wkA,rtZ,sbZ,dC,ev,fiZ,pkZ,putAt,bnd,slD,gZ0,gZ1,dR_sl,Mem.cell,Mem.row,wmA,t8,t9]
    by_cases hjl : j < l.length
    · obtain ⟨bi,bo,L,hvv,hL,hc,hlt⟩ := boolAt ha hjl
      rw [hvv] at t7
      have hjw : IntKind.i64.wrap ((j : Int) + 1) = ((j + 1 : Nat) : Int) := by rw [w64 (by omega)]; omega
      have hsm : ((List.range (j + 1)).any fun k => l.getD k false && (decide (k < T.n) && T.last.getD k false)) = (l.getD j false && (decide (j < T.n) && T.last.getD j false)) := by
        rw [List.range_succ,List.any_append,hf]; simp
      generalize hx : l.getD j false = x at *
      cases x with
      | false =>
        simp -implicitDefEqProofs (disch := first | assumption | (simp only [wnA]; done) | (simp only [wnA]; omega) | omega) [hjl,rc78_0,wkA,rtZ,sbZ,dC,ev,fiZ,pkZ,putAt,bnd,slD,gZ0,gZ1,dR_sl,Mem.cell,Mem.row,wmA,t7,t9,sidx_at,hL,hc,getL hc,hjw]
        exact hK (k - 1) _ _ (by omega) ⟨j + 1,by omega,rfl,by rw [hsm]; rfl,by simp [t0],by simp [t7,hvv],by simp [t8],by simp⟩
      | true =>
        have hsl6 := h6.sl.slen
        by_cases hjn : j < T.n
        · have hj2 : j < T.last.length := by omega
          obtain ⟨bi2,bo2,L2,hvv2,hL2,hc2,hlt2⟩ := boolAt h6 hj2
          generalize hy : T.last.getD j false = y at *
          have hsx : sidx 1 lv (.int .i64 (j : Int)) = some (.pointer (some ⟨bi2,bo2 + j,none⟩)) := by rw [hvv2]; simpa using sidx_at (b := bi2) (o := bo2) (n := T.last.length) (c := 1) (j := j) (sz := 1) (k := .i64) hj2
          cases y with
          | true =>
            have hall : ((List.range l.length).any fun k => l.getD k false && (decide (k < T.n) && T.last.getD k false)) = true := by
              rw [List.any_eq_true]
              exact ⟨j,List.mem_range.2 hjl,by rw [hx,hy]; simp [hjn]⟩
            rw [hall] at hq
            simp -implicitDefEqProofs (disch := first | assumption | (simp only [wnA]; done) | (simp only [wnA]; omega) | omega) [hjl,rc78_0,wkA,rtZ,sbZ,dC,ev,fiZ,pkZ,putAt,bnd,slD,gZ0,gZ1,dR_sl,Mem.cell,Mem.row,wmA,t0,t7,t9,sidx_at,hL,hc,getL hc,hjw,g,hsl6,hj2,hsx,hL2,hc2,getL hc2]
            exact hq
          | false =>
            simp -implicitDefEqProofs (disch := first | assumption | (simp only [wnA]; done) | (simp only [wnA]; omega) | omega) [hjl,rc78_0,wkA,rtZ,sbZ,dC,ev,fiZ,pkZ,putAt,bnd,slD,gZ0,gZ1,dR_sl,Mem.cell,Mem.row,wmA,t0,t7,t9,sidx_at,hL,hc,getL hc,hjw,g,hsl6,hj2,hsx,hL2,hc2,getL hc2]
            exact hK (k - 1) _ _ (by omega) ⟨j + 1,by omega,rfl,by rw [hsm]; simp,by simp [t0],by simp [t7,hvv],by simp [t8],by simp⟩
        · have hj2 : ¬ j < T.last.length := by omega
          simp -implicitDefEqProofs (disch := first | assumption | (simp only [wnA]; done) | (simp only [wnA]; omega) | omega) [hjl,rc78_0,wkA,rtZ,sbZ,dC,ev,fiZ,pkZ,putAt,bnd,slD,gZ0,gZ1,dR_sl,Mem.cell,Mem.row,wmA,t0,t7,t9,sidx_at,hL,hc,getL hc,hjw,g,hsl6,hj2]
          exact hK (k - 1) _ _ (by omega) ⟨j + 1,by omega,rfl,by rw [hsm]; simp [hjn],by simp [t0],by simp [t7,hvv],by simp [t8],by simp⟩
    · have hjj : j = l.length := by omega
      subst hjj
      rw [hf] at hq
      simp -implicitDefEqProofs (disch := first | assumption | (simp only [wnA]; done) | (simp only [wnA]; omega) | omega) [hjl,rc78_2,wkA,rtZ,sbZ,dC,ev,fiZ,pkZ,putAt,bnd,slD,gZ0,gZ1,dR_sl,Mem.cell,Mem.row,wmA]
      exact hq
theorem SK_mksP {P : Program} {w0 : World} {ts : Fr} {m : Mem} {R : Value → Mem → Prop} {e bytes a : Nat} {z : Value} {n c : Operand} (hn : ev ts n = .int .i64 (a : Int)) (hc : ev ts c = .int .i64 (a : Int)) (hb : bytes * a ≤ 140737488355328) (hm : a ≤ maxLen) :
    SK P w0 (.e (.mks e bytes z n c)) ts m R = R (.slice (some ⟨m.next,0,none⟩) a 1) (m.push (.own (List.replicate a z) e)) := by
  have h : (0 : Int) ≤ (a : Int) ∧ (a : Int) ≤ (a : Int) ∧ (bytes : Int) * (a : Int) ≤ 140737488355328 ∧ (a : Int) ≤ (maxLen : Nat) := ⟨by omega,Int.le_refl _,by rw [← Int.natCast_mul]; omega,Int.ofNat_le.2 hm⟩
  simp only [SK,dE,hn,hc]
  rw [if_pos h]
  simp
theorem w_came {w0 : World} {X : Nat → Prop} {Q : AQ} {fr : Fr} {m : Mem} {it k : Nat} {T : Tab} {av : Value} {l : List Bool} {is : Bool} (hT : TabV X m it T) (ha : RdV X m 1 av (l.map .bool) l.length) (hl : l.length ≤ 1000) (hk : k < T.n)
    (f0 : fr 0 = .pointer (some ⟨it,0,none⟩)) (f1 : fr 1 = av) (f10 : fr 10 = .int .i64 (k : Nat)) (f12 : fr 12 = .bool is) (f44 : fr 44 = av) (f45 : fr 45 = .int .i64 (l.length : Nat)) (f46 : fr 46 = .int .i64 0)
    (hq : ∀ fr',fr' 12 = .bool (orJ T l k is l.length) → (∀ i ∈ [0,1,2,3,9,10,23,24,25],fr' i = fr i) → Q .normal fr' m) : LoopW (AbW Tryz.prog w0 rc77_1) (inBlockA 2 Q) fr m := by
  obtain ⟨sv,nv,fv,lv,rs,g,h1,h2,h3,h4,h5,h6⟩ := hT.ex
  have hrl : rs.length = T.n := by rw [← hT.wf.1,← h2,List.length_map]
  have hsl3 := h3.sl.slen
  refine LoopW_of (fun n ts m' => ∃ j,j + n = l.length ∧ m' = m ∧ ts 12 = .bool (orJ T l k is j) ∧ (∀ i ∈ [0,1,2,3,9,10,23,24,25],ts i = fr i) ∧ ts 44 = av ∧ ts 45 = .int .i64 (l.length : Nat) ∧ ts 46 = .int .i64 (j : Nat)) l.length ?_ ?_
  · exact ⟨0,by omega,rfl,f12,fun _ _ => rfl,f44,f45,f46⟩
  · rintro n ts m1 K ⟨j,hj,rfl,t12,sm,t44,t45,t46⟩ hK
    have e0 := (sm 0 (by simp)).trans f0
    have e1 := (sm 1 (by simp)).trans f1
    have e10 := (sm 10 (by simp)).trans f10
    simp -implicitDefEqProofs (disch := first | assumption | (simp only [wnA]; done) | (simp only [wnA]; omega) | omega) [rc77_1,wkA,rtZ,sbZ,dC,ev,fiZ,pkZ,putAt,bnd,slD,gZ0,gZ1,dR_sl,Mem.cell,Mem.row,wmA,t45,t46]
    by_cases hjl : j < l.length
    · have hjw : IntKind.i64.wrap ((j : Int) + 1) = ((j + 1 : Nat) : Int) := by rw [w64 (by omega)]; omega
      have fin : ∀ fr' : Fr,fr' 12 = .bool (orJ T l k is (j + 1)) → (∀ i ∈ [0,1,2,3,9,10,23,24,25],fr' i = ts i) → fr' 44 = ts 44 → fr' 45 = ts 45 → fr' 46 = .int .i64 ((j + 1 : Nat) : Int) → K fr' m1 := fun fr' e12 es e44 e45 e46 =>
        hK (n - 1) _ _ (by omega) ⟨j + 1,by omega,rfl,e12,fun i hi => (es i hi).trans (sm i hi),e44.trans t44,e45.trans t45,e46⟩
      have ho : orJ T l k is (j + 1) = (orJ T l k is j || (decide (j < T.n) && l.getD j false && (T.next.getD j []).getD k false)) := rfl
      generalize orJ T l k is j = o at *
      cases o with
      | true =>
        rw [Bool.true_or] at ho
        simp -implicitDefEqProofs (disch := first | assumption | (simp only [wnA]; done) | (simp only [wnA]; omega) | omega) [hjl,rc77_0,wkA,rtZ,sbZ,dC,ev,fiZ,pkZ,putAt,bnd,slD,gZ0,gZ1,dR_sl,Mem.cell,Mem.row,wmA,t12,t46,hjw]
        refine fin _ (by simp [ho]) (fun i hi => ?_) (by simp) (by simp) (by simp)
        simp only [List.mem_cons,List.not_mem_nil,or_false] at hi
        rcases hi with rfl | rfl | rfl | rfl | rfl | rfl | rfl | rfl | rfl <;> simp
      | false =>
        rw [Bool.false_or] at ho
        by_cases hjn : j < T.n
        · obtain ⟨bi,bo,L,hvv,hL,hc,hlt⟩ := boolAt ha hjl
          have hsx : sidx 1 av (.int .i64 (j : Int)) = some (.pointer (some ⟨bi,bo + j,none⟩)) := by rw [hvv]; simpa using sidx_at (b := bi) (o := bo) (n := l.length) (c := 1) (j := j) (sz := 1) (k := .i64) hjl
          have hjr : j < rs.length := by omega
          generalize hx : l.getD j false = x at *
          cases x with
          | false =>
            rw [Bool.and_false,Bool.false_and] at ho
            simp -implicitDefEqProofs (disch := first | assumption | (simp only [wnA]; done) | (simp only [wnA]; omega) | omega) [hjl,hjr,rc77_0,wkA,rtZ,sbZ,dC,ev,fiZ,pkZ,putAt,bnd,slD,gZ0,gZ1,dR_sl,Mem.cell,Mem.row,wmA,t12,t46,hjw,e0,g,hsl3,e1,hsx,hL,hc,getL hc]
            refine fin _ (by simp [ho]) (fun i hi => ?_) (by simp) (by simp) (by simp)
            simp only [List.mem_cons,List.not_mem_nil,or_false] at hi
            rcases hi with rfl | rfl | rfl | rfl | rfl | rfl | rfl | rfl | rfl <;> simp [e0,e1,e10]
          | true =>
            obtain ⟨b2,o2,L2,hv2,hL2,hl2,-,hc2⟩ := h3.sl.at hjr
            have hc2 := hc2 0 (by omega)
            simp only [Nat.mul_one,Nat.add_zero,List.getElem?_map,List.getElem?_eq_getElem hjr,Option.map_some] at hc2
            have hs2 : sidx 1 nv (.int .i64 (j : Int)) = some (.pointer (some ⟨b2,o2 + j,none⟩)) := by rw [hv2]; simpa using sidx_at (b := b2) (o := o2) (n := rs.length) (c := 1) (j := j) (sz := 1) (k := .i64) hjr
            have hrm := List.getElem_mem hjr
            have hnx : T.next.getD j [] = rs[j].2 := by
              rw [← h2,List.getD,List.getElem?_map,List.getElem?_eq_getElem hjr]; rfl
            have hrn : rs[j].2.length = T.n := hT.wf.2.1 _ (by rw [← h2]; exact List.mem_map.2 ⟨_,hrm,rfl⟩)
            have hr4 := h4 _ hrm
            rw [hnx] at ho
            generalize rs[j] = r at *
            obtain ⟨b3,o3,L3,hv3,hL3,hc3,hlt3⟩ := boolAt hr4 (show k < r.2.length by omega)
            have hs3 : sidx 1 r.1 (.int .i64 (k : Int)) = some (.pointer (some ⟨b3,o3 + k,none⟩)) := by rw [hv3]; simpa using sidx_at (b := b3) (o := o3) (n := r.2.length) (c := 1) (j := k) (sz := 1) (k := .i64) (by omega)
            have ho : orJ T l k is (j + 1) = r.2.getD k false := by rw [ho]; simp [hjn]
            generalize r.2.getD k false = y at *
            simp -implicitDefEqProofs (disch := first | assumption | (simp only [wnA]; done) | (simp only [wnA]; omega) | omega) [hjl,hjr,rc77_0,wkA,rtZ,sbZ,dC,ev,fiZ,pkZ,putAt,bnd,slD,gZ0,gZ1,dR_sl,Mem.cell,Mem.row,wmA,t12,t46,hjw,e0,e1,e10,g,hsl3,hsx,hL,hc,getL hc,hs2,hL2,hc2,getL hc2,hs3,hL3,hc3,getL hc3]
            refine fin _ (by simp [ho]) (fun i hi => ?_) (by simp) (by simp) (by simp)
            simp only [List.mem_cons,List.not_mem_nil,or_false] at hi
            rcases hi with rfl | rfl | rfl | rfl | rfl | rfl | rfl | rfl | rfl <;> simp [e0,e1,e10]
        · have hjr : ¬ j < rs.length := by omega
          have ho : orJ T l k is (j + 1) = false := by rw [ho]; simp [hjn]
          simp -implicitDefEqProofs (disch := first | assumption | (simp only [wnA]; done) | (simp only [wnA]; omega) | omega) [hjl,hjr,rc77_0,wkA,rtZ,sbZ,dC,ev,fiZ,pkZ,putAt,bnd,slD,gZ0,gZ1,dR_sl,Mem.cell,Mem.row,wmA,t12,t46,hjw,e0,g,hsl3]
          refine fin _ (by simp [ho]) (fun i hi => ?_) (by simp) (by simp) (by simp)
          simp only [List.mem_cons,List.not_mem_nil,or_false] at hi
          rcases hi with rfl | rfl | rfl | rfl | rfl | rfl | rfl | rfl | rfl <;> simp [e0,e1,e10]
    · have hjj : j = l.length := by omega
      subst hjj
      simp -implicitDefEqProofs (disch := first | assumption | (simp only [wnA]; done) | (simp only [wnA]; omega) | omega) [hjl,wkA,rtZ,sbZ,dC,ev,fiZ,pkZ,putAt,bnd,slD,gZ0,gZ1,dR_sl,Mem.cell,Mem.row,wmA]
      exact hq _ (by simp [t12]) fun i hi => by
        have := sm i hi
        simp only [List.mem_cons,List.not_mem_nil,or_false] at hi
        rcases hi with rfl | rfl | rfl | rfl | rfl | rfl | rfl | rfl | rfl <;> simp [this]
theorem stepJ_same {T : Tab} {l : List Bool} {c : UInt8} {b : Bool} {j : Nat} (h : j < T.n) (hk : tabK T l c b j = false) : stepJ T l c b (j + 1) = stepJ T l c b j := by
  have e : T.n - j = (T.n - (j + 1)) + 1 := by omega
  unfold stepJ
  rw [e,List.replicate_succ,List.range_succ,List.map_append,List.map_cons,hk]
  simp
theorem c_nStep {w0 : World} {X : Nat → Prop} {m : Mem} {it : Nat} {T : Tab} {av : Value} {l : List Bool} {c : UInt8} {b : Bool} {Q : Value → Mem → Prop} (hT : TabV X m it T) (ha : RdV X m 1 av (l.map .bool) l.length) (hl : l.length ≤ 1000)
    (hq : ∀ m',Old m m' → m.next < m'.next → m'.get m.next = .own ((stepB T l c b).map .bool) 4 → Q (.slice (some ⟨m.next,0,none⟩) T.n 1) m') :
    AbC Tryz.prog w0 77 [.pointer (some ⟨it,0,none⟩),av,.int .u8 (c.toNat : Int),.bool b] m Q := by
  refine AbC_fn ok77 (by simp) ?_
  obtain ⟨sv,nv,fv,lv,rs,g,h1,h2,h3,h4,h5,h6⟩ := hT.ex
  have hsl := h1.sl.slen
  have hn := hT.wf.2.2.2.2
  have hsn : T.sets.length = T.n := rfl
  rw [hsn] at hsl
  simp -implicitDefEqProofs (disch := first | assumption | (simp only [wnA]; done) | (simp only [wnA]; omega) | omega) [rc77,ro77,wkA,rtZ,sbZ,dC,ev,fiZ,pkZ,putAt,bnd,slD,gZ0,gZ1,dR_sl,Mem.cell,Mem.row,wmA,g,hsl]
  rw [SK_mksP (a := T.n) (by simp [wkA,rtZ,sbZ,dC,ev,fiZ,pkZ,putAt,bnd,slD,gZ0,gZ1,dR_sl]) (by simp [wkA,rtZ,sbZ,dC,ev,fiZ,pkZ,putAt,bnd,slD,gZ0,gZ1,dR_sl]) (by omega) (by simp only [maxLen]; omega)]
  obtain ⟨M,hM⟩ : ∃ M,m.push (.own (List.replicate T.n (.bool false)) 4) = M := ⟨_,rfl⟩
  have oM : Old m M := by subst hM; exact (Old.refl m).push _
  have gM : M.get m.next = .own ((stepJ T l c b 0).map .bool) 4 := by subst hM; rw [Mem.push_same]; simp [stepJ]
  have nM : m.next < M.next := by subst hM; simp
  have gt : M.get it = .own [sv,nv,fv,lv,.bool T.emp] 210 := (oM.2 _ hT.lt.1).trans g
  rw [hM]
  clear hM
  simp -implicitDefEqProofs (disch := first | assumption | (simp only [wnA]; done) | (simp only [wnA]; omega) | omega) [wkA,rtZ,sbZ,dC,ev,fiZ,pkZ,putAt,bnd,slD,gZ0,gZ1,dR_sl,Mem.cell,Mem.row,wmA,gt,hsl]
  refine LoopW_of (fun q ts m' => ∃ j,j + q = T.n ∧ Old m m' ∧ m.next < m'.next ∧ m'.get m.next = .own ((stepJ T l c b j).map .bool) 4 ∧ ts 0 = .pointer (some ⟨it,0,none⟩) ∧ ts 1 = av ∧ ts 2 = .int .u8 (c.toNat : Int) ∧ ts 3 = .bool b ∧ ts 9 = .slice (some ⟨m.next,0,none⟩) T.n 1 ∧ ts 23 = sv ∧ ts 24 = .int .i64 (T.n : Nat) ∧ ts 25 = .int .i64 (j : Nat)) T.n ?_ ?_
  · exact ⟨0,by omega,oM,nM,gM,by simp [frA_at],by simp [frA_at],by simp [frA_at],by simp [frA_at],by simp,by simp,by simp,by simp⟩
  · rintro q ts m1 K ⟨j,hj,o1,n1,go,t0,t1,t2,t3,t9,t23,t24,t25⟩ hK
    simp -implicitDefEqProofs (disch := first | assumption | (simp only [wnA]; done) | (simp only [wnA]; omega) | omega) [rc77_4,wkA,rtZ,sbZ,dC,ev,fiZ,pkZ,putAt,bnd,slD,gZ0,gZ1,dR_sl,Mem.cell,Mem.row,wmA,t24,t25]
    by_cases hjn : j < T.n
    · have hT1 := hT.keep (o1.keeps (X := X))
      have ha1 := ha.keep (o1.keeps (X := X))
      obtain ⟨bi,bo,L,hvv,hL,hLl,hLt,-⟩ := (h1.keep (o1.keeps (X := X))).sl.at hjn
      rw [flat_at st4_len T.sets (List.getElem?_eq_getElem hjn)] at hLt
      obtain ⟨s,hs⟩ : ∃ s,T.sets[j] = s := ⟨_,rfl⟩
      have hsg : T.sets.getD j ⟨0,0,0,0⟩ = s := by rw [List.getD,List.getElem?_eq_getElem hjn,← hs]; rfl
      rw [hs] at hLt
      rw [hvv] at t23
      have hle : bo + j * 4 + 4 ≤ L.length := by omega
      have hjw : IntKind.i64.wrap ((j : Int) + 1) = ((j + 1 : Nat) : Int) := by rw [w64 (by omega)]; omega
      obtain ⟨M2,hM2⟩ : ∃ M,(m1.push (.own [.int .u64 0,.int .u64 0,.int .u64 0,.int .u64 0] 150)).set m1.next (.own (putAt [.int .u64 0,.int .u64 0,.int .u64 0,.int .u64 0] 0 s.cells) 150) = M := ⟨_,rfl⟩
      have o2 : Old m1 M2 := by subst hM2; exact ((Old.refl m1).push _).set (Nat.le_refl _) _
      have g2 : M2.get m1.next = .own [.int .u64 s.a,.int .u64 s.b,.int .u64 s.c,.int .u64 s.d] 150 := by subst hM2; rw [Mem.set_same]; rfl
      have hsi : sidx 4 (.slice (some ⟨bi,bo,none⟩) T.sets.length 4) (.int .i64 (j : Int)) = some (.pointer (some ⟨bi,bo + j * 4,none⟩)) := sidx_at hjn
      have hLt' : (L.drop (bo + j * 4)).take 4 = [.int .u64 s.a,.int .u64 s.b,.int .u64 s.c,.int .u64 s.d] := hLt
      simp -implicitDefEqProofs (disch := first | assumption | (simp only [wnA]; done) | (simp only [wnA]; omega) | omega) [hjn,rc77_3,wkA,rtZ,sbZ,dC,ev,fiZ,pkZ,putAt,bnd,slD,gZ0,gZ1,dR_sl,Mem.cell,Mem.row,wmA,t23,t25,hsi,hL,hLt',hle]
      refine SK_stm (i := m1.next) (o := 0) (vs := s.cells) (cs := [.int .u64 0,.int .u64 0,.int .u64 0,.int .u64 0]) (e := 150) (M := M2) (by simp [wkA,rtZ,sbZ,dC,ev,fiZ,pkZ,putAt,bnd,slD,gZ0,gZ1,dR_sl]) (by simp -implicitDefEqProofs (disch := first | assumption | (simp only [wnA]; done) | (simp only [wnA]; omega) | omega) [wkA,rtZ,sbZ,dC,ev,fiZ,pkZ,putAt,bnd,slD,gZ0,gZ1,dR_sl,Mem.cell,Mem.row,wmA]) (by simp [wkA,rtZ,sbZ,dC,ev,fiZ,pkZ,putAt,bnd,slD,gZ0,gZ1,dR_sl,St4.cells]) (by simp) rfl rfl hM2 ?_
      clear hM2
      simp -implicitDefEqProofs (disch := first | assumption | (simp only [wnA]; done) | (simp only [wnA]; omega) | omega) [wkA,rtZ,sbZ,dC,ev,fiZ,pkZ,putAt,bnd,slD,gZ0,gZ1,dR_sl,Mem.cell,Mem.row,wmA,g2,t2]
      refine c_rHas (s := s) fun m3 o3 => ?_
      have o13 := o2.trans o3
      have go3 : m3.get m.next = .own ((stepJ T l c b j).map .bool) 4 := (o13.2 _ n1).trans go
      have n3 : m.next < m3.next := Nat.lt_of_lt_of_le n1 o13.1
      have hk0 : tabK T l c b j = (if hasB s c then orJ T l j (b && T.first.getD j false) l.length else false) := by unfold tabK; rw [hsg]
      cases hh : hasB s c with
      | false =>
        rw [hh] at hk0
        simp -implicitDefEqProofs (disch := first | assumption | (simp only [wnA]; done) | (simp only [wnA]; omega) | omega) [wkA,rtZ,sbZ,dC,ev,fiZ,pkZ,putAt,bnd,slD,gZ0,gZ1,dR_sl,Mem.cell,Mem.row,wmA,t25,hjw]
        exact hK (q - 1) _ _ (by omega) ⟨j + 1,by omega,o1.trans o13,n3,by rw [stepJ_same hjn hk0]; exact go3,by simp [t0],by simp [t1],by simp [t2],by simp [t3],by simp [t9],by simp [t23,hvv],by simp [t24],by simp⟩
      | true =>
        rw [hh,if_pos rfl] at hk0
        have hT3 := hT1.keep (o13.keeps (X := X))
        have ha3 := ha1.keep (o13.keeps (X := X))
        have gt3 : m3.get it = .own [sv,nv,fv,lv,.bool T.emp] 210 := ((o1.trans o13).2 _ hT.lt.1).trans g
        have hfl := hT.wf.2.2.1
        obtain ⟨b5,o5,L5,hv5,hL5,hc5,-⟩ := boolAt (h5.keep ((o1.trans o13).keeps (X := X))) (show j < T.first.length by omega)
        have hs5 : sidx 1 fv (.int .i64 (j : Int)) = some (.pointer (some ⟨b5,o5 + j,none⟩)) := by rw [hv5]; simpa using sidx_at (b := b5) (o := o5) (n := T.first.length) (c := 1) (j := j) (sz := 1) (k := .i64) (by omega)
        generalize T.first.getD j false = fj at *
        have hsla := ha3.sl.slen
        obtain ⟨M5,hM5⟩ : ∃ M,m3.set m.next (.own (putAt ((stepJ T l c b j).map .bool) j [.bool (tabK T l c b j)]) 4) = M := ⟨_,rfl⟩
        have g5 : M5.get m.next = .own ((stepJ T l c b (j + 1)).map .bool) 4 := by
          subst hM5
          rw [Mem.set_same,stepJ_succ hjn]
          simp [putAt,List.map_take,List.map_drop]
        have o5 : Old m M5 := by subst hM5; exact (o1.trans o13).set (Nat.le_refl _) _
        have n5 : m.next < M5.next := by subst hM5; exact n3
        have hlj : ((stepJ T l c b j).map Value.bool).length = T.n := by rw [List.length_map,stepJ_len (by omega)]
        have hsj : sidx 1 (.slice (some ⟨m.next,0,none⟩) T.n 1) (.int .i64 (j : Int)) = some (.pointer (some ⟨m.next,j,none⟩)) := by simpa using sidx_at (b := m.next) (o := 0) (n := T.n) (c := 1) (j := j) (sz := 1) (k := .i64) hjn
        have last : ∀ (fr' : Fr),fr' 0 = ts 0 → fr' 1 = ts 1 → fr' 2 = ts 2 → fr' 3 = ts 3 → fr' 9 = ts 9 → fr' 23 = ts 23 → fr' 24 = ts 24 → fr' 25 = .int .i64 ((j + 1 : Nat) : Int) → K fr' M5 := fun fr' e0 e1 e2 e3 e9 e23 e24 e25 =>
          hK (q - 1) _ _ (by omega) ⟨j + 1,by omega,o5,n5,g5,by rw [e0,t0],by rw [e1,t1],by rw [e2,t2],by rw [e3,t3],by rw [e9,t9],by rw [e23,t23,hvv],by rw [e24,t24],e25⟩
        cases b
        · simp only [Bool.false_and] at hk0
          simp -implicitDefEqProofs (disch := first | assumption | (simp only [wnA]; done) | (simp only [wnA]; omega) | omega) [rc77_2,wkA,rtZ,sbZ,dC,ev,fiZ,pkZ,putAt,bnd,slD,gZ0,gZ1,dR_sl,Mem.cell,Mem.row,wmA,t0,t1,t3,t25,hsla]
          refine w_came (k := j) (is := false) hT3 ha3 hl hjn (by simp [t0]) (by simp [t1]) (by simp) (by simp) (by simp) (by simp) (by simp) fun fr' e12 es => ?_
          rw [← hk0] at e12
          have h9 := (es 9 (by simp)).trans (by simp [t9] : _ = Value.slice (some ⟨m.next,0,none⟩) T.n 1)
          have h10 := (es 10 (by simp)).trans (by simp : _ = Value.int .i64 (j : Int))
          have h25 := (es 25 (by simp)).trans (by simp [t25] : _ = Value.int .i64 (j : Int))
          simp -implicitDefEqProofs (disch := first | assumption | (simp only [wnA]; done) | (simp only [wnA]; omega) | omega) [wkA,rtZ,sbZ,dC,ev,fiZ,pkZ,putAt,bnd,slD,gZ0,gZ1,dR_sl,Mem.cell,Mem.row,wmA,h9,h10,e12,hsj]
          refine SK_stm (i := m.next) (o := j) (vs := [.bool (tabK T l c false j)]) (cs := (stepJ T l c false j).map .bool) (e := 4) (M := M5) (by simp [wkA,rtZ,sbZ,dC,ev,fiZ,pkZ,putAt,bnd,slD,gZ0,gZ1,dR_sl]) go3 (by simp [wkA,rtZ,sbZ,dC,ev,fiZ,pkZ,putAt,bnd,slD,gZ0,gZ1,dR_sl]) (by rw [hlj]; omega) rfl rfl hM5 ?_
          clear hM5
          simp -implicitDefEqProofs (disch := first | assumption | (simp only [wnA]; done) | (simp only [wnA]; omega) | omega) [wkA,rtZ,sbZ,dC,ev,fiZ,pkZ,putAt,bnd,slD,gZ0,gZ1,dR_sl,Mem.cell,Mem.row,wmA,h25,hjw]
          exact last _ (by simpa using es 0 (by simp)) (by simpa using es 1 (by simp)) (by simpa using es 2 (by simp)) (by simpa using es 3 (by simp)) (by simpa [h9] using t9.symm) (by simpa using es 23 (by simp)) (by simpa using es 24 (by simp)) (by simp)
        · simp only [Bool.true_and] at hk0
          simp -implicitDefEqProofs (disch := first | assumption | (simp only [wnA]; done) | (simp only [wnA]; omega) | omega) [rc77_2,wkA,rtZ,sbZ,dC,ev,fiZ,pkZ,putAt,bnd,slD,gZ0,gZ1,dR_sl,Mem.cell,Mem.row,wmA,t0,t1,t3,t25,hsla,gt3,hs5,hL5,hc5,getL hc5]
          refine w_came (k := j) (is := fj) hT3 ha3 hl hjn (by simp [t0]) (by simp [t1]) (by simp) (by simp) (by simp) (by simp) (by simp) fun fr' e12 es => ?_
          rw [← hk0] at e12
          have h9 := (es 9 (by simp)).trans (by simp [t9] : _ = Value.slice (some ⟨m.next,0,none⟩) T.n 1)
          have h10 := (es 10 (by simp)).trans (by simp : _ = Value.int .i64 (j : Int))
          have h25 := (es 25 (by simp)).trans (by simp [t25] : _ = Value.int .i64 (j : Int))
          simp -implicitDefEqProofs (disch := first | assumption | (simp only [wnA]; done) | (simp only [wnA]; omega) | omega) [wkA,rtZ,sbZ,dC,ev,fiZ,pkZ,putAt,bnd,slD,gZ0,gZ1,dR_sl,Mem.cell,Mem.row,wmA,h9,h10,e12,hsj]
          refine SK_stm (i := m.next) (o := j) (vs := [.bool (tabK T l c true j)]) (cs := (stepJ T l c true j).map .bool) (e := 4) (M := M5) (by simp [wkA,rtZ,sbZ,dC,ev,fiZ,pkZ,putAt,bnd,slD,gZ0,gZ1,dR_sl]) go3 (by simp [wkA,rtZ,sbZ,dC,ev,fiZ,pkZ,putAt,bnd,slD,gZ0,gZ1,dR_sl]) (by rw [hlj]; omega) rfl rfl hM5 ?_
          clear hM5
          simp -implicitDefEqProofs (disch := first | assumption | (simp only [wnA]; done) | (simp only [wnA]; omega) | omega) [wkA,rtZ,sbZ,dC,ev,fiZ,pkZ,putAt,bnd,slD,gZ0,gZ1,dR_sl,Mem.cell,Mem.row,wmA,h25,hjw]
          exact last _ (by simpa using es 0 (by simp)) (by simpa using es 1 (by simp)) (by simpa using es 2 (by simp)) (by simpa using es 3 (by simp)) (by simpa [h9] using t9.symm) (by simpa using es 23 (by simp)) (by simpa using es 24 (by simp)) (by simp)
    · have hjj : j = T.n := by omega
      subst hjj
      simp -implicitDefEqProofs (disch := first | assumption | (simp only [wnA]; done) | (simp only [wnA]; omega) | omega) [hjn,rc77_5,wkA,rtZ,sbZ,dC,ev,fiZ,pkZ,putAt,bnd,slD,gZ0,gZ1,dR_sl,Mem.cell,Mem.row,wmA,t9]
      refine hq m1 o1 n1 ?_
      rw [go]
      simp [stepJ,stepB]
structure WaE where
  it : Nat
  T : Tab
  av : Value
  at_ : List Bool
def WaE.core (w : WaE) : Tab × List Bool := (w.T,w.at_)
def WaE.ptr (w : WaE) : Value := .pointer (some ⟨w.it,0,none⟩)
structure WatV (X : Nat → Prop) (m : Mem) (iw ia : Nat) (ws : List WaE) (seen : Int) (over : Bool) : Prop where
  g : ∃ tv,m.get iw = .own [tv,.slice (some ⟨ia,0,none⟩) ws.length 1,.int .i64 seen,.bool over] 146 ∧ RdV X m 1 tv (ws.map WaE.ptr) ws.length
  ga : m.get ia = .own (ws.map WaE.av) 186
  es : ∀ w ∈ ws,TabV X m w.it w.T ∧ RdV X m 1 w.av (w.at_.map .bool) w.at_.length ∧ w.at_.length ≤ 1000
  own : ¬ X iw ∧ ¬ X ia ∧ iw ≠ ia ∧ iw < m.next ∧ ia < m.next
  l : ws.length ≤ 8
  wl : ∀ i,m.next ≤ i → X i
theorem WatV.keep {X : Nat → Prop} {m m' : Mem} {iw ia : Nat} {ws : List WaE} {seen : Int} {over : Bool} (h : WatV X m iw ia ws seen over) (k : Keeps X m m') (k1 : m'.get iw = m.get iw) (k2 : m'.get ia = m.get ia) : WatV X m' iw ia ws seen over := by
  obtain ⟨tv,g,r⟩ := h.g
  exact ⟨⟨tv,k1.trans g,r.keep k⟩,k2.trans h.ga,fun w hw => ⟨(h.es w hw).1.keep k,(h.es w hw).2.1.keep k,(h.es w hw).2.2⟩,⟨h.own.1,h.own.2.1,h.own.2.2.1,Nat.lt_of_lt_of_le h.own.2.2.2.1 k.1,Nat.lt_of_lt_of_le h.own.2.2.2.2 k.1⟩,h.l,fun i hi => h.wl i (Nat.le_trans k.1 hi)⟩
theorem WatV.old {X : Nat → Prop} {m m' : Mem} {iw ia : Nat} {ws : List WaE} {seen : Int} {over : Bool} (h : WatV X m iw ia ws seen over) (o : Old m m') : WatV X m' iw ia ws seen over :=
  h.keep o.keeps (o.2 _ h.own.2.2.2.1) (o.2 _ h.own.2.2.2.2)
def endsB (T : Tab) (l : List Bool) : Bool := (List.range l.length).any fun k => l.getD k false && (decide (k < T.n) && T.last.getD k false)
def coreS (c : UInt8) (x : Tab × List Bool) : Tab × List Bool := (x.1,stepB x.1 x.2 c true)
def bestJ (l : List (Tab × List Bool)) : Nat → Int
  | 0 => -1
  | j + 1 => if bestJ l j < 0 ∧ (match l[j]? with | some x => endsB x.1 x.2 | none => false) = true then (j : Int) else bestJ l j
theorem bestJ_rng (l : List (Tab × List Bool)) : ∀ j,-1 ≤ bestJ l j ∧ bestJ l j < j
  | 0 => by simp [bestJ]
  | j + 1 => by
    have := bestJ_rng l j
    simp only [bestJ]
    split <;> omega
theorem stepB_len (T : Tab) (l : List Bool) (c : UInt8) (b : Bool) : (stepB T l c b).length = T.n := by simp [stepB]
theorem mix_succ {α : Type} {A B : List α} {j : Nat} {x : α} (hl : A.length = B.length) (hj : j < B.length) (hx : A[j]? = some x) : (A.take j ++ B.drop j).set j x = A.take (j + 1) ++ B.drop (j + 1) := by
  have h1 : (A.take j).length = j := by rw [List.length_take]; omega
  have h2 : A.take (j + 1) = A.take j ++ [x] := by
    rw [List.take_add_one,hx]; rfl
  rw [List.set_append,h1,if_neg (by omega),Nat.sub_self,h2,List.drop_eq_getElem_cons hj,List.set_cons_zero,List.append_assoc]
  rfl
theorem c_WPut {w0 : World} {X : Nat → Prop} {m : Mem} {iw ia : Nat} {ws : List WaE} {seen : Int} {over : Bool} {c : UInt8} {Q : Value → Mem → Prop} (h : WatV X m iw ia ws seen over) 
    (hq : ∀ m' ws' seen',over = false → Keeps (fun i => i ≠ iw ∧ i ≠ ia) m m' → ws'.map WaE.core = (ws.map WaE.core).map (coreS c) → ws'.map WaE.it = ws.map WaE.it →
      WatV X m' iw ia ws' seen' (decide (0 ≤ bestJ ((ws.map WaE.core).map (coreS c)) ws.length)) → Q (.tuple ⟨[.int .i64 (max 0 (bestJ ((ws.map WaE.core).map (coreS c)) ws.length)),.bool (decide (0 ≤ bestJ ((ws.map WaE.core).map (coreS c)) ws.length))]⟩) m')
    (hz : over = true → Q (.tuple ⟨[.int .i64 0,.bool false]⟩) m) : AbC Tryz.prog w0 59 [.pointer (some ⟨iw,0,none⟩),.int .u8 (c.toNat : Int)] m Q := by
  refine AbC_fn ok59 (by simp) ?_
  obtain ⟨tv,g,hr⟩ := h.g
  have hl := h.l
  cases over with
  | true =>
    simp -implicitDefEqProofs (disch := first | assumption | (simp only [wnA]; done) | (simp only [wnA]; omega) | omega) [rc59,ro59,wkA,rtZ,sbZ,dC,ev,fiZ,pkZ,putAt,bnd,slD,gZ0,gZ1,dR_sl,Mem.cell,Mem.row,wmA,g]
    exact hz rfl
  | false =>
    simp -implicitDefEqProofs (disch := first | assumption | (simp only [wnA]; done) | (simp only [wnA]; omega) | omega) [rc59,ro59,rc59_4,wkA,rtZ,sbZ,dC,ev,fiZ,pkZ,putAt,bnd,slD,gZ0,gZ1,dR_sl,Mem.cell,Mem.row,wmA,g]
    obtain ⟨s1,hs1⟩ : ∃ s1,IntKind.i64.wrap (seen + 1) = s1 := ⟨_,rfl⟩
    obtain ⟨M1,hM1⟩ : ∃ M,m.set iw (.own [tv,.slice (some ⟨ia,0,none⟩) ws.length 1,.int .i64 s1,.bool false] 146) = M := ⟨_,rfl⟩
    have g1 : M1.get iw = .own [tv,.slice (some ⟨ia,0,none⟩) ws.length 1,.int .i64 s1,.bool false] 146 := by subst hM1; rw [Mem.set_same]
    have k1 : Keeps (fun i => i ≠ iw ∧ i ≠ ia) m M1 := by subst hM1; exact (Keeps.refl _ _).set (fun _ h => h.1 rfl) _
    have kW1 : Keeps X m M1 := by subst hM1; exact (Keeps.refl _ _).set (fun _ hx => h.own.1 hx) _
    have ga1 : M1.get ia = .own (ws.map WaE.av) 186 := by subst hM1; rw [Mem.set_other _ _ h.own.2.2.1.symm]; exact h.ga
    have n1 : M1.next = m.next := by subst hM1; rfl
    have hone := hr.sl
    refine SK_stm (i := iw) (o := 2) (vs := [.int .i64 s1]) (cs := [tv,.slice (some ⟨ia,0,none⟩) ws.length 1,.int .i64 seen,.bool false]) (e := 146) (M := M1) (by simp [wkA,rtZ,sbZ,dC,ev,fiZ,pkZ,putAt,bnd,slD,gZ0,gZ1,dR_sl]) g (by simp [wkA,rtZ,sbZ,dC,ev,fiZ,pkZ,putAt,bnd,slD,gZ0,gZ1,dR_sl,hs1]) (by simp) rfl rfl hM1 ?_
    clear hM1
    have hsl := hr.sl.slen
    simp -implicitDefEqProofs (disch := first | assumption | (simp only [wnA]; done) | (simp only [wnA]; omega) | omega) [wkA,rtZ,sbZ,dC,ev,fiZ,pkZ,putAt,bnd,slD,gZ0,gZ1,dR_sl,Mem.cell,Mem.row,wmA,g1,hsl]
    have hA : ((ws.map WaE.core).map (coreS c)).length = (ws.map WaE.core).length := by simp
    have hB : (ws.map WaE.core).length = ws.length := by simp
    obtain ⟨B,hBe⟩ : ∃ B,ws.map WaE.core = B := ⟨_,rfl⟩
    rw [hBe] at hq hA hB
    refine LoopW_of (fun q ts m' => ∃ (j : Nat) (ws' : List WaE),j + q = ws.length ∧ Keeps (fun i => i ≠ iw ∧ i ≠ ia) m m' ∧ Keeps X m m' ∧ ws'.map WaE.core = (B.map (coreS c)).take j ++ B.drop j ∧ ws'.map WaE.it = ws.map WaE.it ∧
      m'.get iw = .own [tv,.slice (some ⟨ia,0,none⟩) ws.length 1,.int .i64 s1,.bool false] 146 ∧ m'.get ia = .own (ws'.map WaE.av) 186 ∧ (∀ w ∈ ws',TabV X m' w.it w.T ∧ RdV X m' 1 w.av (w.at_.map .bool) w.at_.length ∧ w.at_.length ≤ 1000) ∧
      ts 0 = .pointer (some ⟨iw,0,none⟩) ∧ ts 1 = .int .u8 (c.toNat : Int) ∧ ts 6 = .int .i64 (bestJ (B.map (coreS c)) j) ∧ ts 23 = tv ∧ ts 24 = .int .i64 (ws.length : Nat) ∧ ts 25 = .int .i64 (j : Nat)) ws.length ?_ ?_
    · exact ⟨0,ws,by omega,k1,kW1,by simp [hBe],rfl,g1,ga1,fun w hw => ⟨(h.es w hw).1.keep kW1,(h.es w hw).2.1.keep kW1,(h.es w hw).2.2⟩,by simp [frA_at],by simp [frA_at],by simp [bestJ],by simp,by simp,by simp⟩
    · rintro q ts m1 K ⟨j,ws',hj,kk,kW,hcore,hit,gw,ga,hes,t0,t1,t6,t23,t24,t25⟩ hK
      have hwl : ws'.length = ws.length := by have := congrArg List.length hit; simpa using this
      simp -implicitDefEqProofs (disch := first | assumption | (simp only [wnA]; done) | (simp only [wnA]; omega) | omega) [rc59_1,wkA,rtZ,sbZ,dC,ev,fiZ,pkZ,putAt,bnd,slD,gZ0,gZ1,dR_sl,Mem.cell,Mem.row,wmA,t24,t25]
      by_cases hjn : j < ws.length
      · have hjn' : j < ws'.length := by omega
        obtain ⟨w,hw⟩ : ∃ w,ws'[j] = w := ⟨_,rfl⟩
        have hwm : w ∈ ws' := by rw [← hw]; exact List.getElem_mem hjn'
        obtain ⟨hT,hav,hal⟩ := hes w hwm
        have hptr : (ws.map WaE.ptr)[j]? = some (.pointer (some ⟨w.it,0,none⟩)) := by
          have h1 : (ws'.map WaE.it)[j]? = some w.it := by rw [List.getElem?_map,List.getElem?_eq_getElem hjn',hw]; rfl
          rw [hit,List.getElem?_map] at h1
          rw [List.getElem?_map]
          cases hx : ws[j]? with
          | none => rw [hx] at h1; cases h1
          | some y => rw [hx] at h1; simp only [Option.map_some,Option.some.injEq] at h1 ⊢; rw [← h1]; rfl
        obtain ⟨bi,bo,L,hvv,hL,hLl,-,hLc⟩ := (hr.keep kW).sl.at hjn
        have hc := hLc 0 (by omega)
        simp only [Nat.mul_one,Nat.add_zero,hptr] at hc
        have hst : sidx 1 tv (.int .i64 (j : Int)) = some (.pointer (some ⟨bi,bo + j,none⟩)) := by rw [hvv]; simpa using sidx_at (b := bi) (o := bo) (n := ws.length) (c := 1) (j := j) (sz := 1) (k := .i64) hjn
        have hsa : sidx 1 (.slice (some ⟨ia,0,none⟩) ws.length 1) (.int .i64 (j : Int)) = some (.pointer (some ⟨ia,j,none⟩)) := by simpa using sidx_at (b := ia) (o := 0) (n := ws.length) (c := 1) (j := j) (sz := 1) (k := .i64) hjn
        have hca : (ws'.map WaE.av)[j]? = some w.av := by rw [List.getElem?_map,List.getElem?_eq_getElem hjn',hw]; rfl
        obtain ⟨LA,hLA⟩ : ∃ LA,ws'.map WaE.av = LA := ⟨_,rfl⟩
        rw [hLA] at ga hca
        simp -implicitDefEqProofs (disch := first | assumption | (simp only [wnA]; done) | (simp only [wnA]; omega) | omega) [hjn,rc59_0,wkA,rtZ,sbZ,dC,ev,fiZ,pkZ,putAt,bnd,slD,gZ0,gZ1,dR_sl,Mem.cell,Mem.row,wmA,t0,t1,t23,t25,hst,hL,hc,getL hc,gw,hsa,ga,hca,getL hca]
        refine c_nStep hT hav hal fun m2 o2 n2 g2 => ?_
        have gw2 := (o2.2 iw (Nat.lt_of_lt_of_le h.own.2.2.2.1 kk.1)).trans gw
        have ga2 := (o2.2 ia (Nat.lt_of_lt_of_le h.own.2.2.2.2 kk.1)).trans ga
        simp -implicitDefEqProofs (disch := first | assumption | (simp only [wnA]; done) | (simp only [wnA]; omega) | omega) [wkA,rtZ,sbZ,dC,ev,fiZ,pkZ,putAt,bnd,slD,gZ0,gZ1,dR_sl,Mem.cell,Mem.row,wmA,gw2,hsa]
        obtain ⟨nv,hnv⟩ : ∃ nv : Value,.slice (some ⟨m1.next,0,none⟩) w.T.n 1 = nv := ⟨_,rfl⟩
        have hnr : RdV X m2 1 nv ((stepB w.T w.at_ c true).map .bool) (stepB w.T w.at_ c true).length := by
          subst hnv
          refine ⟨⟨by simp,.inr ⟨m1.next,0,(stepB w.T w.at_ c true).map .bool,by rw [stepB_len],by rw [g2]; rfl,by simp,by rw [List.drop_zero,List.take_of_length_le (by simp)]⟩⟩,fun b hb => ?_⟩
          cases hb
          exact ⟨n2,h.wl _ kk.1⟩
        have hno : oneC nv = true ∧ cellsV nv = [nv] := by subst hnv; exact ⟨rfl,rfl⟩
        obtain ⟨M3,hM3⟩ : ∃ M,m2.set ia (.own (putAt LA j [nv]) 186) = M := ⟨_,rfl⟩
        have hlA : j < LA.length := by rw [← hLA,List.length_map]; exact hjn'
        have k3 : Keeps (fun i => i ≠ iw ∧ i ≠ ia) m2 M3 := by subst hM3; exact (Keeps.refl _ _).set (fun _ h => h.2 rfl) _
        have kW3 : Keeps X m2 M3 := by subst hM3; exact (Keeps.refl _ _).set (fun _ hx => h.own.2.1 hx) _
        have gw3 : M3.get iw = .own [tv,.slice (some ⟨ia,0,none⟩) ws.length 1,.int .i64 s1,.bool false] 146 := by subst hM3; rw [Mem.set_other _ _ h.own.2.2.1]; exact gw2
        have hset : putAt LA j [nv] = (ws'.set j { w with av := nv,at_ := stepB w.T w.at_ c true }).map WaE.av := by
          rw [List.map_set,hLA,putAt,List.set_eq_take_append_cons_drop,if_pos hlA]
          simp
        have ga3 : M3.get ia = .own ((ws'.set j { w with av := nv,at_ := stepB w.T w.at_ c true }).map WaE.av) 186 := by rw [← hset]; subst hM3; rw [Mem.set_same]
        have kkF := (kk.trans (o2.keeps (X := fun i => i ≠ iw ∧ i ≠ ia))).trans k3
        have kWF := (kW.trans (o2.keeps (X := X))).trans kW3
        have kW13 := (o2.keeps (X := X)).trans kW3
        have hn1000 := hT.wf.2.2.2.2
        have hes3 : ∀ x ∈ ws'.set j { w with av := nv,at_ := stepB w.T w.at_ c true },TabV X M3 x.it x.T ∧ RdV X M3 1 x.av (x.at_.map .bool) x.at_.length ∧ x.at_.length ≤ 1000 := fun x hx => by
          rcases List.mem_or_eq_of_mem_set hx with hx | rfl
          · exact ⟨(hes x hx).1.keep kW13,(hes x hx).2.1.keep kW13,(hes x hx).2.2⟩
          · exact ⟨hT.keep kW13,hnr.keep kW3,by show (stepB w.T w.at_ c true).length ≤ 1000; rw [stepB_len]; exact hn1000⟩
        have hwc : B[j]? = some (w.T,w.at_) := by
          have h1 : (ws'.map WaE.core)[j]? = some (w.T,w.at_) := by rw [List.getElem?_map,List.getElem?_eq_getElem hjn',hw]; rfl
          rw [hcore,List.getElem?_append_right (by simp; omega)] at h1
          have e : ((B.map (coreS c)).take j).length = j := by simp; omega
          rw [e,Nat.sub_self,List.getElem?_drop,Nat.add_zero] at h1
          exact h1
        have hAc : (B.map (coreS c))[j]? = some (w.T,stepB w.T w.at_ c true) := by rw [List.getElem?_map,hwc]; rfl
        have hcore3 : (ws'.set j { w with av := nv,at_ := stepB w.T w.at_ c true }).map WaE.core = (B.map (coreS c)).take (j + 1) ++ B.drop (j + 1) := by
          rw [List.map_set,hcore]
          exact mix_succ hA (by omega) hAc
        have hit3 : (ws'.set j { w with av := nv,at_ := stepB w.T w.at_ c true }).map WaE.it = ws.map WaE.it := by
          rw [List.map_set,← hit]
          have : (ws'.map WaE.it)[j]'(by simpa using hjn') = w.it := by simp [hw]
          rw [← this]
          exact List.set_getElem_self _
        have hjw : IntKind.i64.wrap ((j : Int) + 1) = ((j + 1 : Nat) : Int) := by rw [w64 (by omega)]; omega
        have hb1 : bestJ (B.map (coreS c)) (j + 1) = if bestJ (B.map (coreS c)) j < 0 ∧ endsB w.T (stepB w.T w.at_ c true) = true then (j : Int) else bestJ (B.map (coreS c)) j := by
          simp only [bestJ,hAc]
        have last : ∀ fr' : Fr,fr' 0 = ts 0 → fr' 1 = ts 1 → fr' 6 = .int .i64 (bestJ (B.map (coreS c)) (j + 1)) → fr' 23 = ts 23 → fr' 24 = ts 24 → fr' 25 = .int .i64 ((j + 1 : Nat) : Int) → K fr' M3 := fun fr' e0 e1 e6 e23 e24 e25 =>
          hK (q - 1) _ _ (by omega) ⟨j + 1,_,by omega,kkF,kWF,hcore3,hit3,gw3,ga3,hes3,by rw [e0,t0],by rw [e1,t1],e6,by rw [e23,t23],by rw [e24,t24],e25⟩
        refine SK_stm (i := ia) (o := j) (vs := [nv]) (cs := LA) (e := 186) (M := M3) (by simp [wkA,rtZ,sbZ,dC,ev,fiZ,pkZ,putAt,bnd,slD,gZ0,gZ1,dR_sl]) ga2 (by simp [wkA,rtZ,sbZ,dC,ev,fiZ,pkZ,putAt,bnd,slD,gZ0,gZ1,dR_sl,hnv,hno.2]) (by omega) rfl (by simp [hno.1]) hM3 ?_
        have g3c : (putAt LA j [nv])[j]? = some nv := by
          have e0 : putAt LA j [nv] = LA.set j nv := by rw [putAt,List.set_eq_take_append_cons_drop,if_pos hlA]; simp
          rw [e0,List.getElem?_set_self hlA]
        have ga3' : M3.get ia = .own (putAt LA j [nv]) 186 := by rw [hset]; exact ga3
        clear hM3
        generalize bestJ (B.map (coreS c)) j = bj at *
        by_cases hb : bj < 0
        · have hE : endsB w.T (stepB w.T w.at_ c true) = ((List.range (stepB w.T w.at_ c true).length).any fun k => (stepB w.T w.at_ c true).getD k false && (decide (k < w.T.n) && w.T.last.getD k false)) := rfl
          obtain ⟨LB,hLB⟩ : ∃ LB,putAt LA j [nv] = LB := ⟨_,rfl⟩
          rw [hLB] at ga3' g3c
          simp -implicitDefEqProofs (disch := first | assumption | (simp only [wnA]; done) | (simp only [wnA]; omega) | omega) [wkA,rtZ,sbZ,dC,ev,fiZ,pkZ,putAt,bnd,slD,gZ0,gZ1,dR_sl,Mem.cell,Mem.row,wmA,t0,t6,ltT hb,gw3,hsa,ga3',g3c,getL g3c]
          refine c_nEnds (hT.keep kW13) (hnr.keep kW3) (by rw [stepB_len]; exact hn1000) ?_
          rw [← hE]
          cases he : endsB w.T (stepB w.T w.at_ c true) with
          | true =>
            rw [if_pos ⟨hb,he⟩] at hb1
            simp -implicitDefEqProofs (disch := first | assumption | (simp only [wnA]; done) | (simp only [wnA]; omega) | omega) [wkA,rtZ,sbZ,dC,ev,fiZ,pkZ,putAt,bnd,slD,gZ0,gZ1,dR_sl,Mem.cell,Mem.row,wmA,t25,hjw]
            exact last _ (by simp) (by simp) (by simp [hb1]) (by simp) (by simp) (by simp)
          | false =>
            rw [if_neg (fun h => by rw [he] at h; cases h.2)] at hb1
            simp -implicitDefEqProofs (disch := first | assumption | (simp only [wnA]; done) | (simp only [wnA]; omega) | omega) [wkA,rtZ,sbZ,dC,ev,fiZ,pkZ,putAt,bnd,slD,gZ0,gZ1,dR_sl,Mem.cell,Mem.row,wmA,t25,hjw]
            exact last _ (by simp) (by simp) (by simp [hb1,t6]) (by simp) (by simp) (by simp)
        · rw [if_neg (fun h => hb h.1)] at hb1
          simp -implicitDefEqProofs (disch := first | assumption | (simp only [wnA]; done) | (simp only [wnA]; omega) | omega) [wkA,rtZ,sbZ,dC,ev,fiZ,pkZ,putAt,bnd,slD,gZ0,gZ1,dR_sl,Mem.cell,Mem.row,wmA,t0,t6,ltF (show (0 : Int) ≤ bj by omega),t25,hjw]
          exact last _ (by simp) (by simp) (by simp [hb1,t6]) (by simp) (by simp) (by simp)
      · have hjj : j = ws.length := by omega
        subst hjj
        have hcF : ws'.map WaE.core = B.map (coreS c) := by
          rw [hcore,List.take_of_length_le (by omega),List.drop_of_length_le (by omega),List.append_nil]
        have hrng := bestJ_rng (B.map (coreS c)) ws.length
        generalize bestJ (B.map (coreS c)) ws.length = bj at *
        have hWV : ∀ (M : Mem) (o : Bool),M.get iw = .own [tv,.slice (some ⟨ia,0,none⟩) ws.length 1,.int .i64 s1,.bool o] 146 → M.next = m1.next → (∀ i,i ≠ iw → M.get i = m1.get i) → WatV X M iw ia ws' s1 o := fun M o hg hn ho => by
          have kM : Keeps X m1 M := ⟨by omega,fun i _ hi => ho i (fun e => h.own.1 (by rw [← e]; exact hi))⟩
          refine ⟨⟨tv,by rw [hwl]; exact hg,?_⟩,by rw [ho _ h.own.2.2.1.symm]; exact ga,fun w hw => ⟨(hes w hw).1.keep kM,(hes w hw).2.1.keep kM,(hes w hw).2.2⟩,⟨h.own.1,h.own.2.1,h.own.2.2.1,by have := h.own.2.2.2.1; have := kk.1; omega,by have := h.own.2.2.2.2; have := kk.1; omega⟩,by omega,fun i hi => h.wl i (by have := kk.1; omega)⟩
          have e : ws'.map WaE.ptr = ws.map WaE.ptr := by
            have := congrArg (List.map fun i => Value.pointer (some ⟨i,0,none⟩)) hit
            rw [List.map_map,List.map_map] at this
            exact this
          rw [e,hwl]
          exact (hr.keep kW).keep kM
        by_cases hb : bj < 0
        · have e1 : max 0 bj = 0 := by omega
          have e2 : decide (0 ≤ bj) = false := by simp; omega
          rw [e1,e2] at hq
          simp -implicitDefEqProofs (disch := first | assumption | (simp only [wnA]; done) | (simp only [wnA]; omega) | omega) [hjn,rc59_3,wkA,rtZ,sbZ,dC,ev,fiZ,pkZ,putAt,bnd,slD,gZ0,gZ1,dR_sl,Mem.cell,Mem.row,wmA,t6,ltT hb]
          exact hq m1 ws' s1 rfl kk hcF hit (hWV m1 false gw rfl fun _ _ => rfl)
        · have e1 : max 0 bj = bj := by omega
          have e2 : decide (0 ≤ bj) = true := by simp; omega
          rw [e1,e2] at hq
          simp -implicitDefEqProofs (disch := first | assumption | (simp only [wnA]; done) | (simp only [wnA]; omega) | omega) [hjn,rc59_3,rc59_2,wkA,rtZ,sbZ,dC,ev,fiZ,pkZ,putAt,bnd,slD,gZ0,gZ1,dR_sl,Mem.cell,Mem.row,wmA,t0,t6,ltF (show (0 : Int) ≤ bj by omega)]
          obtain ⟨M3,hM3⟩ : ∃ M,m1.set iw (.own [tv,.slice (some ⟨ia,0,none⟩) ws.length 1,.int .i64 s1,.bool true] 146) = M := ⟨_,rfl⟩
          have hV := hWV M3 true (by subst hM3; rw [Mem.set_same]) (by subst hM3; rfl) (fun i hi => by subst hM3; exact Mem.set_other _ _ hi)
          have k3 : Keeps (fun i => i ≠ iw ∧ i ≠ ia) m1 M3 := by subst hM3; exact (Keeps.refl _ _).set (fun _ h => h.1 rfl) _
          refine SK_stm (i := iw) (o := 3) (vs := [.bool true]) (cs := [tv,.slice (some ⟨ia,0,none⟩) ws.length 1,.int .i64 s1,.bool false]) (e := 146) (M := M3) (by simp [wkA,rtZ,sbZ,dC,ev,fiZ,pkZ,putAt,bnd,slD,gZ0,gZ1,dR_sl]) gw (by simp [wkA,rtZ,sbZ,dC,ev,fiZ,pkZ,putAt,bnd,slD,gZ0,gZ1,dR_sl]) (by simp) rfl rfl hM3 ?_
          clear hM3
          simp -implicitDefEqProofs (disch := first | assumption | (simp only [wnA]; done) | (simp only [wnA]; omega) | omega) [wkA,rtZ,sbZ,dC,ev,fiZ,pkZ,putAt,bnd,slD,gZ0,gZ1,dR_sl,Mem.cell,Mem.row,wmA,t6]
          exact hq M3 ws' s1 rfl (kk.trans k3) hcF hit hV
def valOf : List MapEntry → Int → Int
  | [],_ => 0
  | e :: es,k => match e.key,e.val with
    | .int .i64 a,.int .i64 b => if k = a then b else valOf es k
    | _,_ => 0
def okMI (es : List MapEntry) : Prop := ∀ e ∈ es,∃ a b,e.key = .int .i64 a ∧ e.val = .int .i64 b
theorem find_MI {k : Int} : ∀ (es : List MapEntry),okMI es → ∀ i,(∃ j,mapFind 0 (.int .i64 k) es i = some (some (i + j,.int .i64 (valOf es k))) ∧ ∀ v,okMI (mapPut es j (.int .i64 k) (.int .i64 v)) ∧ ∀ k',valOf (mapPut es j (.int .i64 k) (.int .i64 v)) k' = if k' = k then v else valOf es k') ∨
    (mapFind 0 (.int .i64 k) es i = some none ∧ valOf es k = 0 ∧ ∀ v c,okMI (es ++ [⟨.int .i64 k,.int .i64 v,c⟩]) ∧ ∀ k',valOf (es ++ [⟨.int .i64 k,.int .i64 v,c⟩]) k' = if k' = k then v else valOf es k')
  | [],_,i => .inr ⟨rfl,rfl,fun v c => ⟨fun e he => by rw [List.nil_append,List.mem_singleton] at he; subst he; exact ⟨k,v,rfl,rfl⟩,fun k' => by simp [valOf]⟩⟩
  | e :: es,ho,i => by
    obtain ⟨a,b,ha,hb⟩ := ho e (by simp)
    have ho2 : okMI es := fun x hx => ho x (by simp [hx])
    have hk : keyIs 0 (.int .i64 k) (.int .i64 a) = some (k == a) := by simp [keyIs]
    by_cases h : k = a
    · left
      have hbe : (k == a) = true := by simp [h]
      refine ⟨0,?_,fun v => ⟨?_,fun k' => ?_⟩⟩
      · simp only [mapFind,ha,hk,hbe,valOf,hb,if_pos h,Nat.add_zero]
      · intro x hx
        simp only [mapPut,List.mem_cons] at hx
        rcases hx with rfl | hx
        · exact ⟨k,v,rfl,rfl⟩
        · exact ho2 x hx
      · simp only [mapPut,valOf,ha,hb]
        subst h
        split <;> rfl
    · have hbe : (k == a) = false := by simp [h]
      rcases find_MI (k := k) es ho2 (i + 1) with ⟨j,h1,h2⟩ | ⟨h1,h2,h3⟩
      · left
        refine ⟨j + 1,?_,fun v => ⟨?_,fun k' => ?_⟩⟩
        · simp only [mapFind,ha,hk,hbe,h1,valOf,hb,if_neg h]
          rw [show i + 1 + j = i + (j + 1) by omega]
        · intro x hx
          simp only [mapPut,List.mem_cons] at hx
          rcases hx with rfl | hx
          · exact ⟨a,b,ha,hb⟩
          · exact (h2 v).1 x hx
        · simp only [mapPut,valOf,ha,hb,(h2 v).2 k']
          split
          · rename_i h5; rw [if_neg (by rw [h5]; exact Ne.symm h)]
          · rfl
      · right
        refine ⟨by simp only [mapFind,ha,hk,hbe,h1],by simp only [valOf,ha,hb,if_neg h,h2],fun v c => ⟨?_,fun k' => ?_⟩⟩
        · intro x hx
          simp only [List.cons_append,List.mem_cons] at hx
          rcases hx with rfl | hx
          · exact ⟨a,b,ha,hb⟩
          · exact (h3 v c).1 x hx
        · simp only [List.cons_append,valOf,ha,hb,(h3 v c).2 k']
          split
          · rename_i h5; rw [if_neg (by rw [h5]; exact Ne.symm h)]
          · rfl
def MapI (m : Mem) (im : Nat) (f : Int → Int) : Prop := ∃ es c,m.get im = .map es c ∧ okMI es ∧ ∀ k,valOf es k = f k
theorem MapI.lku {m : Mem} {im : Nat} {f : Int → Int} (h : MapI m im f) {ts : Fr} {x i : Operand} {k : Int} (hx : ev ts x = .map (some im)) (hi : ev ts i = .int .i64 k) : dR ts m (.lku 0 false (.int .i64 0) x i) = some (.int .i64 (f k)) := by
  obtain ⟨es,c,g,ho,hv⟩ := h
  simp only [dR,hx,hi,g]
  rcases find_MI (k := k) es ho 0 with ⟨j,h1,-⟩ | ⟨h1,h2,-⟩
  · simp [h1,hv]
  · simp [h1,← hv,h2]
theorem MapI.mup {P : Program} {w0 : World} {m : Mem} {im : Nat} {f : Int → Int} (h : MapI m im f) {ts : Fr} {x i y : Operand} {k v : Int} {R : Value → Mem → Prop} (hx : ev ts x = .map (some im)) (hi : ev ts i = .int .i64 k) (hy : ev ts y = .int .i64 v)
    (hR : ∀ M,MapI M im (fun j => if j = k then v else f j) → M.next = m.next → (∀ i,i ≠ im → M.get i = m.get i) → R undef M) : SK P w0 (.e (.mup 0 x i y)) ts m R := by
  obtain ⟨es,c,g,ho,hv⟩ := h
  unfold SK
  rcases find_MI (k := k) es ho 0 with ⟨j,h1,h2⟩ | ⟨h1,-,h2⟩
  · simp only [dE,hx,hi,hy,g,h1,Nat.zero_add]
    rw [if_pos (.inl (by decide))]
    exact hR _ ⟨_,_,by rw [Mem.set_same],(h2 v).1,fun q => by rw [(h2 v).2 q,hv]⟩ rfl fun i hi => Mem.set_other _ _ hi
  · simp only [dE,hx,hi,hy,g,h1]
    rw [if_pos (.inl (by decide))]
    exact hR _ ⟨_,_,by rw [Mem.set_same],(h2 v c).1,fun q => by rw [(h2 v c).2 q,hv]⟩ rfl fun i hi => Mem.set_other _ _ hi
structure DsX (X : Nat → Prop) (m : Mem) (v : Value) (l : List DV) : Prop where
  sl : RdV X m 7 v (l.flatMap vC) l.length
  ar : ∀ x ∈ l,RdV X m 2 x.2 (x.1.arms.flatMap Arm.cells) x.1.arms.length
theorem DsX.dsV {X : Nat → Prop} {m : Mem} {v : Value} {l : List DV} (h : DsX X m v l) : DsV m v l := ⟨h.sl.sl,fun b hb => (h.sl.bl b hb).1,fun x hx => ⟨(h.ar x hx).sl,fun b hb => ((h.ar x hx).bl b hb).1⟩⟩
theorem DsX.keep {X : Nat → Prop} {m m' : Mem} {v : Value} {l : List DV} (h : DsX X m v l) (k : Keeps X m m') : DsX X m' v l := ⟨h.sl.keep k,fun x hx => (h.ar x hx).keep k⟩
theorem DsX.mono {X Y : Nat → Prop} {m : Mem} {v : Value} {l : List DV} (h : DsX X m v l) (hy : ∀ i,i < m.next → X i → Y i) : DsX Y m v l := ⟨h.sl.mono hy,fun x hx => (h.ar x hx).mono hy⟩
structure WatS where
  iw : Nat
  ia : Nat
  ws : List WaE
  seen : Int
  over : Bool
structure PlS where
  at_ : Int
  im : Nat
  wat : Option WatS
  left : Int
  st : Int
  ot : Option Nat
  tr : List Int
  f : Int → Int
def ownP (ip : Nat) (s : PlS) : List Nat := ip :: s.im :: (s.ot.toList ++ (match s.wat with
  | none => []
  | some w => [w.iw,w.ia]))
def watP : Option WatS → Value
  | none => .pointer none
  | some w => .pointer (some ⟨w.iw,0,none⟩)
def plC (sv : Value) (s : PlS) : List Value := [sv,.int .i64 s.at_,.map (some s.im),watP s.wat,.int .i64 s.left,.int .i64 0,.int .i64 s.st,slV s.ot s.tr.length 1]
structure PlayV (V : List Nat) (m : Mem) (ip : Nat) (sv : Value) (l : List DV) (s : PlS) : Prop where
  g : m.get ip = .own (plC sv s) 121
  ds : DsX (fun i => i ∉ ownP ip s ++ V) m sv l
  mp : MapI m s.im s.f
  ot : SlO m 3 1 s.ot (s.tr.map (.int .i64)) s.tr.length
  wt : ∀ w,s.wat = some w → WatV (fun i => i ∉ ownP ip s ++ V) m w.iw w.ia w.ws w.seen w.over
  nd : (ownP ip s).Nodup
  lt : ∀ i ∈ ownP ip s ++ V,i < m.next
  pt : Part L0 m
  lo : ∀ i ∈ ownP ip s,L0.n ≤ i
  dj : ∀ i ∈ ownP ip s,i ∉ V
theorem Part.keeps {m m' : Mem} {X : Nat → Prop} (h : Part L0 m) (k : Keeps X m m') (hX : ∀ i,i < L0.n → X i) : Part L0 m' := by
  refine ⟨Nat.le_trans h.1 k.1,fun i => ?_⟩
  by_cases hi : i < L0.n
  · rcases h.2 i with h1 | ⟨cs,h1,h2,h3⟩
    · exact .inl h1
    · exact .inr ⟨cs,h1,by rw [k.2 i (Nat.lt_of_lt_of_le hi h.1) (hX i hi)]; exact h2,h3⟩
  · exact .inl (LM.get_ge hi)
theorem PlayV.ipo {V : List Nat} {m : Mem} {ip : Nat} {sv : Value} {l : List DV} {s : PlS} (h : PlayV V m ip sv l s) : ip ∈ ownP ip s ++ V := by simp [ownP]
theorem PlayV.upd {V : List Nat} {m M : Mem} {ip : Nat} {sv : Value} {l : List DV} {s : PlS} (h : PlayV V m ip sv l s) (k : Keeps (fun i => i ≠ ip) m M) (a lf st : Int)
    (g : M.get ip = .own (plC sv { s with at_ := a,left := lf,st := st }) 121) : PlayV V M ip sv l { s with at_ := a,left := lf,st := st } := by
  have hip := h.ipo
  have kX : Keeps (fun i => i ∉ ownP ip s ++ V) m M := k.mono fun i _ hi e => hi (by rw [e]; exact hip)
  have hnd := h.nd
  simp only [ownP,List.nodup_cons,List.mem_cons,not_or] at hnd
  have him : s.im ≠ ip := fun e => hnd.1.1 e.symm
  have hm2 := h.lt s.im (by simp [ownP])
  refine ⟨g,h.ds.keep kX,?_,?_,?_,h.nd,fun i hi => Nat.lt_of_lt_of_le (h.lt i hi) k.1,h.pt.keeps k (fun i hi e => by have := h.lo ip (by simp [ownP]); omega),h.lo,h.dj⟩
  · obtain ⟨es,c,g1,h2⟩ := h.mp
    exact ⟨es,c,(k.2 _ hm2 him).trans g1,h2⟩
  · refine h.ot.keep k.1 fun b hb => k.2 b (h.lt b ?_) ?_
    · simp [ownP,hb]
    · intro e; subst e; exact hnd.1.2 (by simp [hb])
  · intro w hw
    have hw' : s.wat = some w := hw
    rw [hw'] at hnd
    refine (h.wt w hw).keep kX (k.2 _ (h.wt w hw).own.2.2.2.1 fun e => ?_) (k.2 _ (h.wt w hw).own.2.2.2.2 fun e => ?_)
    · exact hnd.1.2 (by rw [← e]; simp)
    · exact hnd.1.2 (by rw [← e]; simp)
theorem PlayV.other {V V' : List Nat} {m M : Mem} {ip : Nat} {sv : Value} {l : List DV} {s : PlS} (h : PlayV V m ip sv l s) (k : Keeps (fun i => i ∉ V) m M) (hV : ∀ i ∈ V',i ∈ V ∨ m.next ≤ i) (hV2 : ∀ i ∈ V',i < M.next) (hV3 : ∀ i ∈ V,i < L0.n → False) : PlayV V' M ip sv l s := by
  have hown : ∀ i ∈ ownP ip s,i < m.next ∧ i ∉ V := fun i hi => ⟨h.lt i (List.mem_append_left _ hi),h.dj i hi⟩
  have hX : ∀ i,i < m.next → i ∉ ownP ip s ++ V → i ∉ ownP ip s ++ V' := fun i hi hn hm => by
    rcases List.mem_append.1 hm with hm | hm
    · exact hn (List.mem_append_left _ hm)
    · rcases hV i hm with h1 | h1
      · exact hn (List.mem_append_right _ h1)
      · omega
  have hk : ∀ i,i < m.next → i ∉ V → M.get i = m.get i := k.2
  have go : ∀ i ∈ ownP ip s,M.get i = m.get i := fun i hi => hk i (hown i hi).1 (hown i hi).2
  have kb : Keeps (fun i => i ∉ ownP ip s ++ V) m M := k.mono fun i _ hi hm => hi (List.mem_append_right _ hm)
  have hXM : ∀ i,i < M.next → (i < m.next ∧ i ∉ ownP ip s ++ V) → i ∉ ownP ip s ++ V' := fun i _ hi => hX i hi.1 hi.2
  have kb2 : Keeps (fun i => i < m.next ∧ i ∉ ownP ip s ++ V) m M := kb.mono fun i _ hi => hi.2
  refine ⟨(go ip (by simp [ownP])).trans h.g,((h.ds.mono fun i hi hx => (⟨hi,hx⟩ : i < m.next ∧ i ∉ ownP ip s ++ V)).keep kb2).mono hXM,?_,?_,?_,h.nd,?_,h.pt.keeps k (fun i hi hm => hV3 i hm hi),h.lo,?_⟩
  · obtain ⟨es,c,g,h2⟩ := h.mp
    exact ⟨es,c,(go _ (by simp [ownP])).trans g,h2⟩
  · refine h.ot.keep k.1 fun b hb => go b (by simp [ownP,hb])
  · intro w hw
    have hwv := h.wt w hw
    have i1 : w.iw ∈ ownP ip s := by simp [ownP,hw]
    have i2 : w.ia ∈ ownP ip s := by simp [ownP,hw]
    obtain ⟨tv,g,r⟩ := hwv.g
    refine ⟨⟨tv,(go _ i1).trans g,((r.mono fun i hi hx => (⟨hi,hx⟩ : i < m.next ∧ i ∉ ownP ip s ++ V)).keep kb2).mono hXM⟩,(go _ i2).trans hwv.ga,fun e he => ⟨(((hwv.es e he).1.mono fun i hi hx => (⟨hi,hx⟩ : i < m.next ∧ i ∉ ownP ip s ++ V)).keep kb2).mono hXM,(((hwv.es e he).2.1.mono fun i hi hx => (⟨hi,hx⟩ : i < m.next ∧ i ∉ ownP ip s ++ V)).keep kb2).mono hXM,(hwv.es e he).2.2⟩,⟨fun hn => hn (List.mem_append_left _ i1),fun hn => hn (List.mem_append_left _ i2),hwv.own.2.2.1,Nat.lt_of_lt_of_le hwv.own.2.2.2.1 k.1,Nat.lt_of_lt_of_le hwv.own.2.2.2.2 k.1⟩,hwv.l,fun i hi hm => ?_⟩
    rcases List.mem_append.1 hm with hm | hm
    · have := (hown i hm).1; have := k.1; omega
    · have := hV2 i hm; omega
  · intro i hi
    rcases List.mem_append.1 hi with hi | hi
    · exact Nat.lt_of_lt_of_le (hown i hi).1 k.1
    · exact hV2 i hi
  · intro i hi hm
    rcases hV i hm with h1 | h1
    · exact h.dj i hi h1
    · have := (hown i hi).1; omega
theorem c_jump {w0 : World} {V : List Nat} {m : Mem} {ip : Nat} {sv : Value} {l : List DV} {s : PlS} {to : List UInt8} {Q : Value → Mem → Prop} (h : PlayV V m ip sv l s) (hl : l.length ≤ 1000000)
    (hq : ∀ M,Keeps (fun i => i ≠ ip) m M → PlayV V M ip sv l { s with at_ := findN to l 0 } → ∀ u,Q u M) : AbC Tryz.prog w0 61 [.pointer (some ⟨ip,0,none⟩),.string ⟨⟨to⟩⟩] m Q := by
  refine AbC_fn ok61 (by simp) ?_
  have g : m.get ip = .own [sv,.int .i64 s.at_,.map (some s.im),watP s.wat,.int .i64 s.left,.int .i64 0,.int .i64 s.st,slV s.ot s.tr.length 1] 121 := h.g
  simp -implicitDefEqProofs (disch := first | assumption | (simp only [wnA]; done) | (simp only [wnA]; omega) | omega) [rc61,ro61,wkA,rtZ,sbZ,dC,ev,fiZ,pkZ,putAt,bnd,slD,gZ0,gZ1,dR_sl,Mem.cell,Mem.row,wmA,g]
  refine c_dFind h.ds.dsV hl fun m1 o1 => ?_
  have hip := h.lt ip h.ipo
  have g1 := (o1.2 _ hip).trans h.g
  obtain ⟨M,hM⟩ : ∃ M,m1.set ip (.own (plC sv { s with at_ := findN to l 0 }) 121) = M := ⟨_,rfl⟩
  simp -implicitDefEqProofs (disch := first | assumption | (simp only [wnA]; done) | (simp only [wnA]; omega) | omega) [wkA,rtZ,sbZ,dC,ev,fiZ,pkZ,putAt,bnd,slD,gZ0,gZ1,dR_sl,Mem.cell,Mem.row,wmA]
  refine SK_stm (i := ip) (o := 1) (vs := [.int .i64 (findN to l 0)]) (cs := plC sv s) (e := 121) (M := M) (by simp [wkA,rtZ,sbZ,dC,ev,fiZ,pkZ,putAt,bnd,slD,gZ0,gZ1,dR_sl]) g1 (by simp [wkA,rtZ,sbZ,dC,ev,fiZ,pkZ,putAt,bnd,slD,gZ0,gZ1,dR_sl]) (by simp [plC]) rfl rfl hM ?_
  have k1 : Keeps (fun i => i ≠ ip) m M := by subst hM; exact (o1.keeps).set (fun _ hn => hn rfl) _
  have hP := h.upd k1 (findN to l 0) s.left s.st (by subst hM; rw [Mem.set_same])
  simp -implicitDefEqProofs (disch := first | assumption | (simp only [wnA]; done) | (simp only [wnA]; omega) | omega) [wkA,rtZ,sbZ,dC,ev,fiZ,pkZ,putAt,bnd,slD,gZ0,gZ1,dR_sl,Mem.cell,Mem.row,wmA]
  exact hq M k1 hP _
def patV (a : Arm) : Value := .string ⟨⟨a.pat⟩⟩
theorem arm_len2 (a : Arm) : a.cells.length = 2 := rfl
theorem w_pso {w0 : World} {Q : AQ} {fr : Fr} {m : Mem} {av : Value} {arms : List Arm} (ha : SlR m 2 av (arms.flatMap Arm.cells) arms.length) (hb : ∀ b,blk av = some b → b < m.next) (hl : arms.length ≤ 1000000) (f5 : fr 5 = .slice none 0 0) (f28 : fr 28 = av) (f29 : fr 29 = .int .i64 (arms.length : Nat)) (f30 : fr 30 = .int .i64 0)
    (hq : ∀ fr' m' ob,Old m m' → SlO m' 9 1 ob (arms.map patV) arms.length → fr' 5 = slV ob arms.length 1 → (∀ i ∈ [0,1,2,3,4],fr' i = fr i) → Q .normal fr' m') : LoopW (AbW Tryz.prog w0 rc69_1) (inBlockA 1 Q) fr m := by
  refine LoopW_of (fun k ts m' => ∃ j ob,j + k = arms.length ∧ Old m m' ∧ SlO m' 9 1 ob ((arms.take j).map patV) j ∧ (∀ i,ob = some i → m.next ≤ i) ∧ (∀ i ∈ [0,1,2,3,4],ts i = fr i) ∧ ts 5 = slV ob j 1 ∧ ts 28 = av ∧ ts 29 = .int .i64 (arms.length : Nat) ∧ ts 30 = .int .i64 (j : Nat)) arms.length ?_ ?_
  · exact ⟨0,none,by omega,Old.refl m,⟨rfl,rfl⟩,(fun i hi => by cases hi),fun _ _ => rfl,f5,f28,f29,f30⟩
  · rintro k ts m1 K ⟨j,ob,hj,o1,so,hob,sm,t5,t28,t29,t30⟩ hK
    simp -implicitDefEqProofs (disch := first | assumption | (simp only [wnA]; done) | (simp only [wnA]; omega) | omega) [rc69_1,wkA,rtZ,sbZ,dC,ev,fiZ,pkZ,putAt,bnd,slD,gZ0,gZ1,dR_sl,Mem.cell,Mem.row,wmA,t29,t30]
    by_cases hjl : j < arms.length
    · obtain ⟨bi,bo,L,hvv,hL,hLl,hLt,-⟩ := (ha.keep fun b hbb => o1.2 b (hb b hbb) : SlR m1 2 av _ arms.length).at hjl
      rw [flat_at arm_len2 arms (List.getElem?_eq_getElem hjl)] at hLt
      obtain ⟨a,hx⟩ : ∃ a,arms[j] = a := ⟨_,rfl⟩
      rw [hx] at hLt
      have hLt : (L.drop (bo + j * 2)).take 2 = [.string ⟨⟨a.pat⟩⟩,.string ⟨⟨a.to⟩⟩] := hLt
      rw [hvv] at t28
      have hle : bo + j * 2 + 2 ≤ L.length := by omega
      have hjw : IntKind.i64.wrap ((j : Int) + 1) = ((j + 1 : Nat) : Int) := by rw [w64 (by omega)]; omega
      obtain ⟨M,hM⟩ : ∃ M,(m1.push (.own [.string ⟨#[]⟩,.string ⟨#[]⟩] 105)).set m1.next (.own (putAt [.string ⟨#[]⟩,.string ⟨#[]⟩] 0 [.string ⟨⟨a.pat⟩⟩,.string ⟨⟨a.to⟩⟩]) 105) = M := ⟨_,rfl⟩
      have oM : Old m1 M := by subst hM; exact ((Old.refl m1).push _).set (Nat.le_refl _) _
      have gM : M.get m1.next = .own [.string ⟨⟨a.pat⟩⟩,.string ⟨⟨a.to⟩⟩] 105 := by subst hM; rw [Mem.set_same]; rfl
      simp -implicitDefEqProofs (disch := first | assumption | (simp only [wnA]; done) | (simp only [wnA]; omega) | omega) [hjl,rc69_0,wkA,rtZ,sbZ,dC,ev,fiZ,pkZ,putAt,bnd,slD,gZ0,gZ1,dR_sl,Mem.cell,Mem.row,wmA,t28,t30,sidx_at,hL,hLt,hle]
      refine SK_stm (i := m1.next) (o := 0) (vs := [.string ⟨⟨a.pat⟩⟩,.string ⟨⟨a.to⟩⟩]) (cs := [.string ⟨#[]⟩,.string ⟨#[]⟩]) (e := 105) (M := M) (by simp [wkA,rtZ,sbZ,dC,ev,fiZ,pkZ,putAt,bnd,slD,gZ0,gZ1,dR_sl]) (by simp -implicitDefEqProofs (disch := first | assumption | (simp only [wnA]; done) | (simp only [wnA]; omega) | omega) [wkA,rtZ,sbZ,dC,ev,fiZ,pkZ,putAt,bnd,slD,gZ0,gZ1,dR_sl,Mem.cell,Mem.row,wmA]) (by simp [wkA,rtZ,sbZ,dC,ev,fiZ,pkZ,putAt,bnd,slD,gZ0,gZ1,dR_sl]) (by simp) rfl rfl hM ?_
      clear hM
      simp -implicitDefEqProofs (disch := first | assumption | (simp only [wnA]; done) | (simp only [wnA]; omega) | omega) [wkA,rtZ,sbZ,dC,ev,fiZ,pkZ,putAt,bnd,slD,gZ0,gZ1,dR_sl,Mem.cell,Mem.row,wmA,gM]
      rw [SK_bsl (cs := [.string ⟨⟨a.pat⟩⟩]) (by simp [wkA,rtZ,sbZ,dC,ev,fiZ,pkZ,putAt,bnd,slD,gZ0,gZ1,dR_sl]) (by simp)]
      obtain ⟨M2,hM2⟩ : ∃ M2,M.push (.own [.string ⟨⟨a.pat⟩⟩] 9) = M2 := ⟨_,rfl⟩
      have o2 : Old M M2 := by subst hM2; exact (Old.refl M).push _
      have g2 : M2.get M.next = .own [.string ⟨⟨a.pat⟩⟩] 9 := by subst hM2; rw [Mem.push_same]
      have so2 : SlO M2 9 1 ob ((arms.take j).map patV) j := so.keep (Nat.le_trans oM.1 o2.1) fun b hbb => (oM.trans o2).2 b (by subst hbb; exact so.lt)
      simp -implicitDefEqProofs (disch := first | assumption | (simp only [wnA]; done) | (simp only [wnA]; omega) | omega) [wkA,rtZ,sbZ,dC,ev,fiZ,pkZ,putAt,bnd,slD,gZ0,gZ1,dR_sl,Mem.cell,Mem.row,wmA,hM2,t5]
      clear hM2
      refine SK_ap (ob := ob) (n := j) (k := 1) (cs := (arms.take j).map patV) (ys := [.string ⟨⟨a.pat⟩⟩]) so2 (by simp [wkA,rtZ,sbZ,dC,ev,fiZ,pkZ,putAt,bnd,slD,gZ0,gZ1,dR_sl,t5]) (by simp -implicitDefEqProofs (disch := first | assumption | (simp only [wnA]; done) | (simp only [wnA]; omega) | omega) [wkA,rtZ,sbZ,dC,ev,fiZ,pkZ,putAt,bnd,slD,gZ0,gZ1,dR_sl,elemsV,Mem.cell,Mem.row,wmA,g2]) (by simp [wkA,rtZ,sbZ,dC,ev,fiZ,pkZ,putAt,bnd,slD,gZ0,gZ1,dR_sl]) (by omega) rfl (by omega) (by simp only [maxLen]; omega) rfl ?_
      obtain ⟨M3,hM3⟩ : ∃ M3,(M2.kill ob).push (.own ((arms.take j).map patV ++ [.string ⟨⟨a.pat⟩⟩]) 9) = M3 := ⟨_,rfl⟩
      have o3 : Old m M3 := by subst hM3; exact (((o1.trans oM).trans o2).kill hob).push _
      have s3 : SlO M3 9 1 (some M2.next) ((arms.take (j + 1)).map patV) (j + 1) := by
        have e : (arms.take (j + 1)).map patV = (arms.take j).map patV ++ [.string ⟨⟨a.pat⟩⟩] := by
          rw [List.take_succ_eq_append_getElem hjl,List.map_append,hx]; rfl
        rw [e]; subst hM3
        exact SlO.new (by rw [List.length_append,List.length_map,List.length_take]; simp; omega)
      have hn2 : m.next ≤ M2.next := ((o1.trans oM).trans o2).1
      rw [hM3]
      simp -implicitDefEqProofs (disch := first | assumption | (simp only [wnA]; done) | (simp only [wnA]; omega) | omega) [wkA,rtZ,sbZ,dC,ev,fiZ,pkZ,putAt,bnd,slD,gZ0,gZ1,dR_sl,Mem.cell,Mem.row,wmA,t30,hjw]
      exact hK (k - 1) _ _ (by omega) ⟨j + 1,some M2.next,by omega,o3,s3,fun i hi => by cases hi; exact hn2,fun i hi => by
        have := sm i hi
        simp only [List.mem_cons,List.not_mem_nil,or_false] at hi
        rcases hi with rfl | rfl | rfl | rfl | rfl <;> simp [this],by simp,by simp [t28,hvv],by simp [t29],by simp⟩
    · have hjj : j = arms.length := by omega
      subst hjj
      rw [List.take_length] at so
      simp -implicitDefEqProofs (disch := first | assumption | (simp only [wnA]; done) | (simp only [wnA]; omega) | omega) [hjl,wkA,rtZ,sbZ,dC,ev,fiZ,pkZ,putAt,bnd,slD,gZ0,gZ1,dR_sl,Mem.cell,Mem.row,wmA]
      exact hq _ m1 ob o1 so (by simp [t5]) fun i hi => by
        have := sm i hi
        simp only [List.mem_cons,List.not_mem_nil,or_false] at hi
        rcases hi with rfl | rfl | rfl | rfl | rfl <;> simp [this]
theorem WatV.mono {X Y : Nat → Prop} {m : Mem} {iw ia : Nat} {ws : List WaE} {seen : Int} {over : Bool} (h : WatV X m iw ia ws seen over) (hy : ∀ i,i < m.next → X i → Y i) (h1 : ¬ Y iw) (h2 : ¬ Y ia) (h3 : ∀ i,m.next ≤ i → Y i) : WatV Y m iw ia ws seen over := by
  obtain ⟨tv,g,r⟩ := h.g
  exact ⟨⟨tv,g,r.mono hy⟩,h.ga,fun w hw => ⟨(h.es w hw).1.mono hy,(h.es w hw).2.1.mono hy,(h.es w hw).2.2⟩,⟨h1,h2,h.own.2.2⟩,h.l,h3⟩
theorem PlayV.old {V : List Nat} {m M : Mem} {ip : Nat} {sv : Value} {l : List DV} {s : PlS} (h : PlayV V m ip sv l s) (o : Old m M) : PlayV V M ip sv l s :=
  h.upd o.keeps s.at_ s.left s.st ((o.2 _ (h.lt _ h.ipo)).trans h.g)
theorem PlayV.setW {V : List Nat} {m m1 M : Mem} {ip : Nat} {sv : Value} {l : List DV} {s : PlS} {w : WatS} (h : PlayV V m ip sv l s) (hw : s.wat = none) (o : Old m m1) (hW : WatV (fun i => m.next ≤ i ∧ i ≠ w.iw ∧ i ≠ w.ia) m1 w.iw w.ia w.ws w.seen w.over) (n1 : m.next ≤ w.iw) (n2 : m.next ≤ w.ia)
    (hM : M = m1.set ip (.own (plC sv { s with wat := some w }) 121)) : PlayV V M ip sv l { s with wat := some w } := by
  subst hM
  have hip := h.ipo
  have hlt := h.lt ip hip
  have ho1 : ownP ip s = ip :: s.im :: s.ot.toList := by simp [ownP,hw]
  have ho2 : ownP ip { s with wat := some w } = (ip :: s.im :: s.ot.toList) ++ [w.iw,w.ia] := by simp [ownP]
  have hX : ∀ i,i < m.next → i ∉ ownP ip s ++ V → i ∉ ownP ip { s with wat := some w } ++ V := fun i hi hn => by
    rw [ho1] at hn
    rw [ho2]
    simp only [List.mem_append,List.mem_cons,List.not_mem_nil,or_false,not_or] at hn ⊢
    exact ⟨⟨hn.1,by omega,by omega⟩,hn.2⟩
  have hnip : ¬ (ip ∉ ownP ip { s with wat := some w } ++ V) := by simp [ownP]
  have k1 : Keeps (fun i => i ∉ ownP ip { s with wat := some w } ++ V) m1 (m1.set ip (.own (plC sv { s with wat := some w }) 121)) := (Keeps.refl _ _).set (fun _ hn => hnip hn) _
  have k0 : Keeps (fun i => i ∉ ownP ip { s with wat := some w } ++ V) m (m1.set ip (.own (plC sv { s with wat := some w }) 121)) := (o.keeps).trans k1
  have hnd := h.nd
  rw [ho1] at hnd
  have hnd2 := hnd
  simp only [List.nodup_cons,List.mem_cons,not_or] at hnd2
  have hall : ∀ i ∈ ip :: s.im :: s.ot.toList,i < m.next := fun i hi => h.lt i (by rw [ho1]; exact List.mem_append_left _ hi)
  have hbig : ∀ i,m1.next ≤ i → i ∉ ownP ip { s with wat := some w } ++ V := fun i hi hm => by
    rw [ho2] at hm
    have := o.1
    simp only [List.mem_append,List.mem_cons,List.not_mem_nil,or_false] at hm
    rcases hm with (hm | hm | hm) | hm
    · have := hall i (by simpa only [List.mem_cons] using hm); omega
    · have := hW.own.2.2.2.1; omega
    · have := hW.own.2.2.2.2; omega
    · have := h.lt i (List.mem_append_right _ hm); omega
  have w1 : w.iw ≠ ip := by omega
  have w2 : w.ia ≠ ip := by omega
  refine ⟨by rw [Mem.set_same],(h.ds.mono hX).keep k0,?_,?_,?_,?_,?_,?_,?_,?_⟩
  · obtain ⟨es,c,g1,h2⟩ := h.mp
    exact ⟨es,c,by rw [Mem.set_other _ _ (fun e => hnd2.1.1 e.symm),o.2 _ (hall _ (by simp))]; exact g1,h2⟩
  · refine h.ot.keep o.1 fun b hb => ?_
    have hb1 : b ∈ s.ot.toList := by simp [hb]
    rw [Mem.set_other _ _ (fun e => hnd2.1.2 (by rw [← e]; exact hb1)),o.2 _ (hall _ (by simp [hb]))]
  · intro w' hw'
    cases hw'
    refine (hW.mono (fun i hi hx => ?_) ?_ ?_ hbig).keep k1 (Mem.set_other _ _ w1) (Mem.set_other _ _ w2)
    · intro hm
      rw [ho2] at hm
      simp only [List.mem_append,List.mem_cons,List.not_mem_nil,or_false] at hm
      rcases hm with (hm | hm | hm) | hm
      · have := hall i (by simpa only [List.mem_cons] using hm); omega
      · exact hx.2.1 hm
      · exact hx.2.2 hm
      · have := h.lt i (List.mem_append_right _ hm); omega
    · simp [ho2]
    · simp [ho2]
  · rw [ho2]
    refine List.nodup_append.2 ⟨hnd,by simp [hW.own.2.2.1],fun a ha b hb e => ?_⟩
    have := hall a ha
    simp only [List.mem_cons,List.not_mem_nil,or_false] at hb
    rcases hb with rfl | rfl <;> omega
  · intro i hi
    show i < m1.next
    have := o.1
    rcases Nat.lt_or_ge i m1.next with h' | h'
    · exact h'
    · exact (hbig i h' hi).elim
  · exact (h.pt.keeps (o.keeps (X := fun i => True)) (fun _ _ => trivial)).keeps ((Keeps.refl (fun i => i ≠ ip) m1).set (fun _ hn => hn rfl) _) (fun i hi e => by have := h.lo ip (by simp [ownP]); omega)
  · intro i hi
    rw [ho2] at hi
    have hp := h.pt.1
    simp only [List.mem_append,List.mem_cons,List.not_mem_nil,or_false] at hi
    rcases hi with hi | hi | hi
    · exact h.lo i (by rw [ho1]; simpa only [List.mem_cons] using hi)
    · omega
    · omega
  · intro i hi hV
    rw [ho2] at hi
    have hlV := h.lt i (List.mem_append_right _ hV)
    simp only [List.mem_append,List.mem_cons,List.not_mem_nil,or_false] at hi
    rcases hi with hi | hi | hi
    · exact h.dj i (by rw [ho1]; simpa only [List.mem_cons] using hi) hV
    · omega
    · omega
def ErrI (w0 : World) (e : Value) : Prop := ∃ t u,e = .iface t u ∧ ∀ (m : Mem) (Q : Value → Mem → Prop),Part L0 m → (∀ m' n,Old m m' → Q (.int .i64 n) m') → AbC Tryz.prog w0 13 [e] m Q
def OfC (w0 : World) (ps : List (List UInt8)) (G : Prop) (P : List (Tab × List Bool) → Prop) : Prop := ∀ (m : Mem) (ob : Option Nat) (Q : Value → Mem → Prop),Part L0 m → SlO m 9 1 ob (ps.map fun p => .string ⟨⟨p⟩⟩) ps.length →
  (∀ m' (w : WatS),Old m m' → w.ws.length = ps.length → P (w.ws.map WaE.core) → w.over = false → WatV (fun i => m.next ≤ i ∧ i ≠ w.iw ∧ i ≠ w.ia) m' w.iw w.ia w.ws w.seen w.over → m.next ≤ w.iw → m.next ≤ w.ia → Q (.tuple ⟨[.pointer (some ⟨w.iw,0,none⟩),.nilIface]⟩) m') →
  (¬ G → ∀ m' e,Old m m' → ErrI w0 e → Q (.tuple ⟨[.pointer none,e]⟩) m') → AbC Tryz.prog w0 45 [slV ob ps.length 1] m Q
def pats (x : DS) : List (List UInt8) := x.arms.map Arm.pat
section
variable (G : List (List UInt8) → Prop) (P : List (List UInt8) → List (Tab × List Bool) → Prop)
inductive OneR (l : List DV) (x : DS) (s : PlS) : PlS → List UInt8 → Prop
  | send : x.kd = 0 → OneR l x s { s with at_ := IntKind.i64.wrap (s.at_ + 1) } x.tx
  | exp (w : WatS) : x.kd = 1 → w.ws.length = x.arms.length → P (pats x) (w.ws.map WaE.core) → w.over = false → OneR l x s { s with wat := some w,left := max 1 x.n } []
  | expN : x.kd = 1 → ¬ G (pats x) → OneR l x s { s with left := max 1 x.n } []
  | goto : x.kd = 2 → OneR l x s { s with at_ := findN x.to l 0 } []
  | tryA : x.kd = 3 → IntKind.i64.wrap (s.f s.at_ + 1) ≤ x.n → OneR l x s { s with f := fun j => if j = s.at_ then IntKind.i64.wrap (s.f s.at_ + 1) else s.f j,at_ := findN x.to l 0 } []
  | tryB : x.kd = 3 → ¬ IntKind.i64.wrap (s.f s.at_ + 1) ≤ x.n → OneR l x s { s with f := fun j => if j = s.at_ then 0 else s.f j,at_ := IntKind.i64.wrap (s.at_ + 1) } []
  | done : x.kd = 4 → OneR l x s { s with st := 1 } []
  | fail : x.kd ≠ 0 → x.kd ≠ 1 → x.kd ≠ 2 → x.kd ≠ 3 → x.kd ≠ 4 → OneR l x s { s with st := 2 } []
end
structure NewB (m m' : Mem) (v : Value) (o : List UInt8) : Prop where
  sl : SlR m' 1 v (o.map byteV) o.length
  bl : ∀ b,blk v = some b → m.next ≤ b ∧ b < m'.next
theorem NewB.nil (m m' : Mem) : NewB m m' (.slice none 0 0) [] := ⟨⟨rfl,.inl ⟨rfl,.inl rfl⟩⟩,fun b hb => by cases hb⟩
theorem PlayV.store {w0 : World} {fr : Fr} {R : Value → Mem → Prop} {V : List Nat} {m : Mem} {ip : Nat} {sv : Value} {l : List DV} {s : PlS} (h : PlayV V m ip sv l s) (a lf st : Int) (j : Nat) (v : Value) {p x : Operand}
    (hp : ev fr p = .pointer (some ⟨ip,j,none⟩)) (hv : cellsV (ev fr x) = [v]) (hc : putAt (plC sv s) j [v] = plC sv { s with at_ := a,left := lf,st := st }) (hj : j + 1 ≤ 8) (ho : oneC v = true)
    (hR : ∀ M,PlayV V M ip sv l { s with at_ := a,left := lf,st := st } → Keeps (fun i => i ≠ ip) m M → R undef M) : SK Tryz.prog w0 (.e (.st 1 p x)) fr m R := by
  have k : Keeps (fun i => i ≠ ip) m (m.set ip (.own (plC sv { s with at_ := a,left := lf,st := st }) 121)) := (Keeps.refl _ _).set (fun _ hn => hn rfl) _
  refine SK_stm (i := ip) (o := j) (vs := [v]) (cs := plC sv s) (e := 121) (M := m.set ip (.own (plC sv { s with at_ := a,left := lf,st := st }) 121)) hp h.g hv (by simp [plC]; omega) rfl (by simp [ho]) (by rw [hc]) (hR _ (h.upd k a lf st (by rw [Mem.set_same])) k)
theorem PlayV.setF {V : List Nat} {m M : Mem} {ip : Nat} {sv : Value} {l : List DV} {s : PlS} {f : Int → Int} (h : PlayV V m ip sv l s) (hf : MapI M s.im f) (hn : M.next = m.next) (ho : ∀ i,i ≠ s.im → M.get i = m.get i) : PlayV V M ip sv l { s with f := f } := by
  have hnd := h.nd
  simp only [ownP,List.nodup_cons,List.mem_cons,List.mem_append,not_or] at hnd
  have kX : Keeps (fun i => i ∉ ownP ip s ++ V) m M := ⟨by omega,fun i _ hi => ho i (fun e => hi (by rw [e]; simp [ownP]))⟩
  refine ⟨(ho ip hnd.1.1).trans h.g,h.ds.keep kX,hf,?_,?_,h.nd,fun i hi => by rw [hn]; exact h.lt i hi,h.pt.keeps (X := fun i => i ≠ s.im) ⟨by omega,fun i _ hi => ho i hi⟩ (fun i hi e => by have := h.lo s.im (by simp [ownP]); omega),h.lo,h.dj⟩
  · refine h.ot.keep (by omega) fun b hb => ho b fun e => ?_
    subst e
    exact hnd.2.1.1 (by simp [hb])
  · intro w hw
    have hw' : s.wat = some w := hw
    rw [hw'] at hnd
    refine (h.wt w hw).keep kX (ho _ fun e => ?_) (ho _ fun e => ?_)
    · exact hnd.2.1.2 (by rw [← e]; simp)
    · exact hnd.2.1.2 (by rw [← e]; simp)
theorem c_one {w0 : World} {V : List Nat} {m : Mem} {ip : Nat} {sv : Value} {l : List DV} {s : PlS} {x : DV} {G : List (List UInt8) → Prop} {P : List (List UInt8) → List (Tab × List Bool) → Prop} {Q : Value → Mem → Prop} (h : PlayV V m ip sv l s) (hl : l.length ≤ 1000000) (hw : s.wat = none) (hx : x ∈ l) (hal : x.1.arms.length ≤ 1000000) (htl : x.1.tx.length ≤ 1000000)
    (hOf : x.1.kd = 1 → OfC w0 (pats x.1) (G (pats x.1)) (P (pats x.1)))
    (hq : ∀ m' s' o v,OneR G P l x.1 s s' o → PlayV V m' ip sv l s' → Keeps (fun i => i ∉ ownP ip s) m m' → NewB m m' v o → (∀ i ∈ ownP ip s',i ∈ ownP ip s ∨ m.next ≤ i) → Q v m') : AbC Tryz.prog w0 69 [.pointer (some ⟨ip,0,none⟩),.agg ⟨vC x⟩] m Q := by
  refine AbC_fn ok69 (by simp) ?_
  have hA := h.ds.ar x hx
  have hone := hA.sl.one
  obtain ⟨⟨lb,kd,tx,arms,n,to,pl⟩,av⟩ := x
  have e : vC (⟨lb,kd,tx,arms,n,to,pl⟩,av) = [.string ⟨⟨lb⟩⟩,.int .i64 kd,.string ⟨⟨tx⟩⟩,av,.int .i64 n,.string ⟨⟨to⟩⟩,.int .i64 pl] := rfl
  rw [e]
  simp only at hal htl hOf hq hA hone
  have hipo := h.ipo
  obtain ⟨M,hM⟩ : ∃ M,m.push (.own [.string ⟨⟨lb⟩⟩,.int .i64 kd,.string ⟨⟨tx⟩⟩,av,.int .i64 n,.string ⟨⟨to⟩⟩,.int .i64 pl] 101) = M := ⟨_,rfl⟩
  have oM : Old m M := by subst hM; exact (Old.refl m).push _
  have gM : M.get m.next = .own [.string ⟨⟨lb⟩⟩,.int .i64 kd,.string ⟨⟨tx⟩⟩,av,.int .i64 n,.string ⟨⟨to⟩⟩,.int .i64 pl] 101 := by subst hM; rw [Mem.push_same]
  have nM : m.next < M.next := by subst hM; simp
  have hP := h.old oM
  have gp : M.get ip = .own [sv,.int .i64 s.at_,.map (some s.im),watP s.wat,.int .i64 s.left,.int .i64 0,.int .i64 s.st,slV s.ot s.tr.length 1] 121 := hP.g
  simp -implicitDefEqProofs (disch := first | assumption | (simp only [wnA]; done) | (simp only [wnA]; omega) | omega) [rc69,ro69,wkA,rtZ,sbZ,dC,ev,fiZ,pkZ,putAt,bnd,slD,gZ0,gZ1,dR_sl,Mem.cell,Mem.row,wmA,hone.2,hM,gM]
  have kM0 : ∀ M',Keeps (fun i => i ≠ ip) M M' → Keeps (fun i => i ∉ ownP ip s) m M' := fun M' k => (oM.keeps).trans (k.mono fun i _ hi e => hi (by rw [e]; simp [ownP]))
  by_cases h0 : kd = 0
  · subst h0
    simp -implicitDefEqProofs (disch := first | assumption | (simp only [wnA]; done) | (simp only [wnA]; omega) | omega) [wkA,rtZ,sbZ,dC,ev,fiZ,pkZ,putAt,bnd,slD,gZ0,gZ1,dR_sl,Mem.cell,Mem.row,wmA,gp]
    refine hP.store (IntKind.i64.wrap (s.at_ + 1)) s.left s.st 1 (.int .i64 (IntKind.i64.wrap (s.at_ + 1))) (by simp [wkA,rtZ,sbZ,dC,ev,fiZ,pkZ,putAt,bnd,slD,gZ0,gZ1,dR_sl]) (by simp [wkA,rtZ,sbZ,dC,ev,fiZ,pkZ,putAt,bnd,slD,gZ0,gZ1,dR_sl]) rfl (by omega) rfl fun M2 hP2 k2 => ?_
    have g2 := (k2.2 m.next nM (fun e => by have := h.lt ip hipo; omega)).trans gM
    simp -implicitDefEqProofs (disch := first | assumption | (simp only [wnA]; done) | (simp only [wnA]; omega) | omega) [wkA,rtZ,sbZ,dC,ev,fiZ,pkZ,putAt,bnd,slD,gZ0,gZ1,dR_sl,Mem.cell,Mem.row,wmA,g2]
    rw [SK_s2b (s := ⟨⟨tx⟩⟩) (by simp [wkA,rtZ,sbZ,dC,ev,fiZ,pkZ,putAt,bnd,slD,gZ0,gZ1,dR_sl]) (by simp [ByteArray.size]; omega)]
    simp -implicitDefEqProofs (disch := first | assumption | (simp only [wnA]; done) | (simp only [wnA]; omega) | omega) [wkA,rtZ,sbZ,dC,ev,fiZ,pkZ,putAt,bnd,slD,gZ0,gZ1,dR_sl,Mem.cell,Mem.row,wmA]
    have o3 : Old M2 (M2.push (.own (tx.map byteV) 5)) := (Old.refl M2).push _
    have := hq (M2.push (.own (tx.map byteV) 5)) _ tx (.slice (some ⟨M2.next,0,none⟩) tx.length 1) (.send rfl) (hP2.old o3) ((kM0 _ k2).trans o3.keeps) ⟨⟨by simp,.inr ⟨M2.next,0,tx.map byteV,rfl,by rw [Mem.push_same]; rfl,by simp,by rw [List.drop_zero,List.take_of_length_le (by simp)]⟩⟩,fun b hb => by cases hb; exact ⟨Nat.le_trans oM.1 k2.1,by simp⟩⟩ (fun i hi => .inl hi)
    simpa [ByteArray.size] using this
  · simp -implicitDefEqProofs (disch := first | assumption | (simp only [wnA]; done) | (simp only [wnA]; omega) | omega) [wkA,rtZ,sbZ,dC,ev,fiZ,pkZ,putAt,bnd,slD,gZ0,gZ1,dR_sl,Mem.cell,Mem.row,wmA,beqF h0]
    by_cases h1 : kd = 1
    · subst h1
      have hAM := hA.keep (oM.keeps)
      have hsl := hAM.sl.slen
      simp -implicitDefEqProofs (disch := first | assumption | (simp only [wnA]; done) | (simp only [wnA]; omega) | omega) [wkA,rtZ,sbZ,dC,ev,fiZ,pkZ,putAt,bnd,slD,gZ0,gZ1,dR_sl,Mem.cell,Mem.row,wmA,gM,hsl]
      refine w_pso hAM.sl (fun b hb => (hAM.bl b hb).1) hal (by simp) (by simp) (by simp) (by simp) fun fr' m1 ob o1 so e5 hf => ?_
      have e0 := (hf 0 (by simp)).trans (by simp [frA_at] : _ = Value.pointer (some ⟨ip,0,none⟩))
      have e3 := (hf 3 (by simp)).trans (by simp : _ = Value.pointer (some ⟨m.next,0,none⟩))
      have e4 := (hf 4 (by simp)).trans (by simp : _ = Value.slice none 0 0)
      have hP1 := hP.old o1
      simp -implicitDefEqProofs (disch := first | assumption | (simp only [wnA]; done) | (simp only [wnA]; omega) | omega) [rc69_2,wkA,rtZ,sbZ,dC,ev,fiZ,pkZ,putAt,bnd,slD,gZ0,gZ1,dR_sl,Mem.cell,Mem.row,wmA,e0,e5]
      have em : (arms.map Arm.pat).map (fun p => Value.string ⟨⟨p⟩⟩) = arms.map patV := by rw [List.map_map]; rfl
      have so' : SlO m1 9 1 ob ((arms.map Arm.pat).map fun p => Value.string ⟨⟨p⟩⟩) (arms.map Arm.pat).length := by rw [em,List.length_map]; exact so
      have hlp : arms.length = (arms.map Arm.pat).length := by rw [List.length_map]
      rw [hlp]
      have hmx : (if n > 1 then n else 1) = max 1 n := by split <;> omega
      refine hOf rfl m1 ob _ hP1.pt so' (fun m2 w o2 hwl hPw hov hWV n1 n2 => ?_) (fun hG m2 e o2 hE => ?_)
      · have g2 : m2.get ip = .own (plC sv s) 121 := (hP1.old o2).g
        have ho12 := oM.trans (o1.trans o2)
        have gs2 := ((o1.trans o2).2 _ nM).trans gM
        obtain ⟨M3,hM3⟩ : ∃ M3,m2.set ip (.own (plC sv { s with wat := some w }) 121) = M3 := ⟨_,rfl⟩
        have hP3 := hP1.setW hw o2 hWV n1 n2 hM3.symm
        have k3 : Keeps (fun i => i ≠ ip) m2 M3 := by subst hM3; exact (Keeps.refl _ _).set (fun _ hn => hn rfl) _
        have hip := h.lt ip hipo
        have gs3 := (k3.2 m.next (Nat.lt_of_lt_of_le nM (o1.trans o2).1) (by omega)).trans gs2
        simp -implicitDefEqProofs (disch := first | assumption | (simp only [wnA]; done) | (simp only [wnA]; omega) | omega) [wkA,rtZ,sbZ,dC,ev,fiZ,pkZ,putAt,bnd,slD,gZ0,gZ1,dR_sl,Mem.cell,Mem.row,wmA,e0]
        refine SK_stm (i := ip) (o := 3) (vs := [.pointer (some ⟨w.iw,0,none⟩)]) (cs := plC sv s) (e := 121) (M := M3) (by simp [wkA,rtZ,sbZ,dC,ev,fiZ,pkZ,putAt,bnd,slD,gZ0,gZ1,dR_sl,e0]) g2 (by simp [wkA,rtZ,sbZ,dC,ev,fiZ,pkZ,putAt,bnd,slD,gZ0,gZ1,dR_sl]) (by simp [plC]) rfl rfl hM3 ?_
        clear hM3
        simp -implicitDefEqProofs (disch := first | assumption | (simp only [wnA]; done) | (simp only [wnA]; omega) | omega) [wkA,rtZ,sbZ,dC,ev,fiZ,pkZ,putAt,bnd,slD,gZ0,gZ1,dR_sl,Mem.cell,Mem.row,wmA,e0,e3,gs3]
        refine hP3.store s.at_ (max 1 n) s.st 4 (.int .i64 (max 1 n)) (by simp [wkA,rtZ,sbZ,dC,ev,fiZ,pkZ,putAt,bnd,slD,gZ0,gZ1,dR_sl,e0]) (by simp [wkA,rtZ,sbZ,dC,ev,fiZ,pkZ,putAt,bnd,slD,gZ0,gZ1,dR_sl,hmx]) rfl (by omega) rfl fun M4 hP4 k4 => ?_
        simp -implicitDefEqProofs (disch := first | assumption | (simp only [wnA]; done) | (simp only [wnA]; omega) | omega) [rc69_3,wkA,rtZ,sbZ,dC,ev,fiZ,pkZ,putAt,bnd,slD,gZ0,gZ1,dR_sl,Mem.cell,Mem.row,wmA]
        refine hq M4 _ [] _ (.exp w rfl (by rw [hwl]; simp [pats]) hPw hov) hP4 ?_ (NewB.nil _ _) fun i hi => ?_
        · exact (ho12.keeps).trans ((k3.trans k4).mono fun i _ hi e => hi (by rw [e]; simp [ownP]))
        · simp only [ownP,hw,List.mem_cons,List.mem_append,List.not_mem_nil,or_false] at hi ⊢
          have := (oM.trans o1).1
          rcases hi with hi | hi | hi | hi | hi
          · exact .inl (.inl hi)
          · exact .inl (.inr (.inl hi))
          · exact .inl (.inr (.inr hi))
          · right; omega
          · right; omega
      · obtain ⟨t,u,rfl,-⟩ := hE
        have hP2 := hP1.old o2
        have gs2 := ((o1.trans o2).2 _ nM).trans gM
        have hip := h.lt ip hipo
        simp -implicitDefEqProofs (disch := first | assumption | (simp only [wnA]; done) | (simp only [wnA]; omega) | omega) [wkA,rtZ,sbZ,dC,ev,fiZ,pkZ,putAt,bnd,slD,gZ0,gZ1,dR_sl,Mem.cell,Mem.row,wmA,e0]
        refine hP2.store s.at_ s.left s.st 3 (.pointer none) (by simp [wkA,rtZ,sbZ,dC,ev,fiZ,pkZ,putAt,bnd,slD,gZ0,gZ1,dR_sl,e0]) (by simp [wkA,rtZ,sbZ,dC,ev,fiZ,pkZ,putAt,bnd,slD,gZ0,gZ1,dR_sl]) (by simp [plC,putAt,hw,watP]) (by omega) rfl fun M3 hP3 k3 => ?_
        have gs3 := (k3.2 m.next (Nat.lt_of_lt_of_le nM (o1.trans o2).1) (by omega)).trans gs2
        simp -implicitDefEqProofs (disch := first | assumption | (simp only [wnA]; done) | (simp only [wnA]; omega) | omega) [wkA,rtZ,sbZ,dC,ev,fiZ,pkZ,putAt,bnd,slD,gZ0,gZ1,dR_sl,Mem.cell,Mem.row,wmA,e0,e3,gs3]
        refine hP3.store s.at_ (max 1 n) s.st 4 (.int .i64 (max 1 n)) (by simp [wkA,rtZ,sbZ,dC,ev,fiZ,pkZ,putAt,bnd,slD,gZ0,gZ1,dR_sl,e0]) (by simp [wkA,rtZ,sbZ,dC,ev,fiZ,pkZ,putAt,bnd,slD,gZ0,gZ1,dR_sl,hmx]) rfl (by omega) rfl fun M4 hP4 k4 => ?_
        simp -implicitDefEqProofs (disch := first | assumption | (simp only [wnA]; done) | (simp only [wnA]; omega) | omega) [rc69_3,wkA,rtZ,sbZ,dC,ev,fiZ,pkZ,putAt,bnd,slD,gZ0,gZ1,dR_sl,Mem.cell,Mem.row,wmA]
        refine hq M4 _ [] _ (.expN rfl hG) hP4 ?_ (NewB.nil _ _) fun i hi => .inl hi
        exact ((oM.trans (o1.trans o2)).keeps).trans ((k3.trans k4).mono fun i _ hi e => hi (by rw [e]; simp [ownP]))
    · simp -implicitDefEqProofs (disch := first | assumption | (simp only [wnA]; done) | (simp only [wnA]; omega) | omega) [wkA,rtZ,sbZ,dC,ev,fiZ,pkZ,putAt,bnd,slD,gZ0,gZ1,dR_sl,Mem.cell,Mem.row,wmA,beqF h1]
      by_cases h2 : kd = 2
      · subst h2
        simp -implicitDefEqProofs (disch := first | assumption | (simp only [wnA]; done) | (simp only [wnA]; omega) | omega) [wkA,rtZ,sbZ,dC,ev,fiZ,pkZ,putAt,bnd,slD,gZ0,gZ1,dR_sl,Mem.cell,Mem.row,wmA,gM]
        refine c_jump hP hl fun M2 k2 hP2 u => ?_
        simp -implicitDefEqProofs (disch := first | assumption | (simp only [wnA]; done) | (simp only [wnA]; omega) | omega) [rc69_3,wkA,rtZ,sbZ,dC,ev,fiZ,pkZ,putAt,bnd,slD,gZ0,gZ1,dR_sl,Mem.cell,Mem.row,wmA]
        exact hq M2 _ [] _ (.goto rfl) hP2 (kM0 _ k2) (NewB.nil _ _) fun i hi => .inl hi
      · simp -implicitDefEqProofs (disch := first | assumption | (simp only [wnA]; done) | (simp only [wnA]; omega) | omega) [wkA,rtZ,sbZ,dC,ev,fiZ,pkZ,putAt,bnd,slD,gZ0,gZ1,dR_sl,Mem.cell,Mem.row,wmA,beqF h2]
        by_cases h3 : kd = 3
        · subst h3
          simp -implicitDefEqProofs (disch := first | assumption | (simp only [wnA]; done) | (simp only [wnA]; omega) | omega) [wkA,rtZ,sbZ,dC,ev,fiZ,pkZ,putAt,bnd,slD,gZ0,gZ1,dR_sl,Mem.cell,Mem.row,wmA,gp]
          rw [hP.mp.lku (k := s.at_) (by simp [wkA,rtZ,sbZ,dC,ev,fiZ,pkZ,putAt,bnd,slD,gZ0,gZ1,dR_sl]) (by simp [wkA,rtZ,sbZ,dC,ev,fiZ,pkZ,putAt,bnd,slD,gZ0,gZ1,dR_sl])]
          simp -implicitDefEqProofs (disch := first | assumption | (simp only [wnA]; done) | (simp only [wnA]; omega) | omega) [wkA,rtZ,sbZ,dC,ev,fiZ,pkZ,putAt,bnd,slD,gZ0,gZ1,dR_sl,Mem.cell,Mem.row,wmA]
          refine hP.mp.mup (k := s.at_) (v := IntKind.i64.wrap (s.f s.at_ + 1)) (by simp [wkA,rtZ,sbZ,dC,ev,fiZ,pkZ,putAt,bnd,slD,gZ0,gZ1,dR_sl]) (by simp [wkA,rtZ,sbZ,dC,ev,fiZ,pkZ,putAt,bnd,slD,gZ0,gZ1,dR_sl]) (by simp [wkA,rtZ,sbZ,dC,ev,fiZ,pkZ,putAt,bnd,slD,gZ0,gZ1,dR_sl]) fun M2 hf2 n2 o2 => ?_
          have hP2 := hP.setF hf2 n2 o2
          have k2 : Keeps (fun i => i ≠ s.im) M M2 := ⟨by omega,fun i _ hi => o2 i hi⟩
          have hip := h.lt ip hipo
          have him := h.lt s.im (by simp [ownP])
          have gs2 := (k2.2 m.next nM (by omega)).trans gM
          have gp2 : M2.get ip = .own [sv,.int .i64 s.at_,.map (some s.im),watP s.wat,.int .i64 s.left,.int .i64 0,.int .i64 s.st,slV s.ot s.tr.length 1] 121 := hP2.g
          have hlk : ∀ {ts : Fr} {x i : Operand},ev ts x = .map (some s.im) → ev ts i = .int .i64 s.at_ → dR ts M2 (.lku 0 false (.int .i64 0) x i) = some (.int .i64 (IntKind.i64.wrap (s.f s.at_ + 1))) := fun hx hi => by have := hP2.mp.lku (k := s.at_) hx hi; simpa using this
          have kF : Keeps (fun i => i ∉ ownP ip s) M M2 := k2.mono fun i _ hi e => hi (by rw [e]; simp [ownP])
          have kM2 : Keeps (fun i => i ∉ ownP ip s) m M2 := (oM.keeps).trans kF
          simp -implicitDefEqProofs (disch := first | assumption | (simp only [wnA]; done) | (simp only [wnA]; omega) | omega) [wkA,rtZ,sbZ,dC,ev,fiZ,pkZ,putAt,bnd,slD,gZ0,gZ1,dR_sl,Mem.cell,Mem.row,wmA,gp2]
          rw [hlk (by simp [wkA,rtZ,sbZ,dC,ev,fiZ,pkZ,putAt,bnd,slD,gZ0,gZ1,dR_sl]) (by simp [wkA,rtZ,sbZ,dC,ev,fiZ,pkZ,putAt,bnd,slD,gZ0,gZ1,dR_sl])]
          simp -implicitDefEqProofs (disch := first | assumption | (simp only [wnA]; done) | (simp only [wnA]; omega) | omega) [wkA,rtZ,sbZ,dC,ev,fiZ,pkZ,putAt,bnd,slD,gZ0,gZ1,dR_sl,Mem.cell,Mem.row,wmA,gs2]
          by_cases hle : IntKind.i64.wrap (s.f s.at_ + 1) ≤ n
          · simp -implicitDefEqProofs (disch := first | assumption | (simp only [wnA]; done) | (simp only [wnA]; omega) | omega) [wkA,rtZ,sbZ,dC,ev,fiZ,pkZ,putAt,bnd,slD,gZ0,gZ1,dR_sl,Mem.cell,Mem.row,wmA,hle,gs2]
            refine c_jump hP2 hl fun M3 k3 hP3 u => ?_
            simp -implicitDefEqProofs (disch := first | assumption | (simp only [wnA]; done) | (simp only [wnA]; omega) | omega) [rc69_3,wkA,rtZ,sbZ,dC,ev,fiZ,pkZ,putAt,bnd,slD,gZ0,gZ1,dR_sl,Mem.cell,Mem.row,wmA]
            refine hq M3 _ [] _ (.tryA rfl hle) hP3 (kM2.trans (k3.mono fun i _ hi e => hi (by rw [e]; simp [ownP]))) (NewB.nil _ _) fun i hi => .inl hi
          · simp -implicitDefEqProofs (disch := first | assumption | (simp only [wnA]; done) | (simp only [wnA]; omega) | omega) [wkA,rtZ,sbZ,dC,ev,fiZ,pkZ,putAt,bnd,slD,gZ0,gZ1,dR_sl,Mem.cell,Mem.row,wmA,hle,gp2]
            refine hP2.mp.mup (k := s.at_) (v := 0) (by simp [wkA,rtZ,sbZ,dC,ev,fiZ,pkZ,putAt,bnd,slD,gZ0,gZ1,dR_sl]) (by simp [wkA,rtZ,sbZ,dC,ev,fiZ,pkZ,putAt,bnd,slD,gZ0,gZ1,dR_sl]) (by simp [wkA,rtZ,sbZ,dC,ev,fiZ,pkZ,putAt,bnd,slD,gZ0,gZ1,dR_sl]) fun M3 hf3 n3 o3 => ?_
            have ef : (fun j => if j = s.at_ then 0 else if j = s.at_ then IntKind.i64.wrap (s.f s.at_ + 1) else s.f j) = fun j => if j = s.at_ then 0 else s.f j := by
              funext j; by_cases hj : j = s.at_ <;> simp [hj]
            rw [ef] at hf3
            have hP3 := hP2.setF hf3 n3 o3
            have k3 : Keeps (fun i => i ∉ ownP ip s) M2 M3 := ⟨by omega,fun i _ hi => o3 i (fun e => hi (by rw [e]; simp [ownP]))⟩
            have gp3 : M3.get ip = .own [sv,.int .i64 s.at_,.map (some s.im),watP s.wat,.int .i64 s.left,.int .i64 0,.int .i64 s.st,slV s.ot s.tr.length 1] 121 := hP3.g
            simp -implicitDefEqProofs (disch := first | assumption | (simp only [wnA]; done) | (simp only [wnA]; omega) | omega) [wkA,rtZ,sbZ,dC,ev,fiZ,pkZ,putAt,bnd,slD,gZ0,gZ1,dR_sl,Mem.cell,Mem.row,wmA,gp3]
            refine hP3.store (IntKind.i64.wrap (s.at_ + 1)) s.left s.st 1 (.int .i64 (IntKind.i64.wrap (s.at_ + 1))) (by simp [wkA,rtZ,sbZ,dC,ev,fiZ,pkZ,putAt,bnd,slD,gZ0,gZ1,dR_sl]) (by simp [wkA,rtZ,sbZ,dC,ev,fiZ,pkZ,putAt,bnd,slD,gZ0,gZ1,dR_sl]) rfl (by omega) rfl fun M4 hP4 k4 => ?_
            simp -implicitDefEqProofs (disch := first | assumption | (simp only [wnA]; done) | (simp only [wnA]; omega) | omega) [rc69_3,wkA,rtZ,sbZ,dC,ev,fiZ,pkZ,putAt,bnd,slD,gZ0,gZ1,dR_sl,Mem.cell,Mem.row,wmA]
            refine hq M4 _ [] _ (.tryB rfl hle) hP4 ((kM2.trans k3).trans (k4.mono fun i _ hi e => hi (by rw [e]; simp [ownP]))) (NewB.nil _ _) fun i hi => .inl hi
        · simp -implicitDefEqProofs (disch := first | assumption | (simp only [wnA]; done) | (simp only [wnA]; omega) | omega) [wkA,rtZ,sbZ,dC,ev,fiZ,pkZ,putAt,bnd,slD,gZ0,gZ1,dR_sl,Mem.cell,Mem.row,wmA,beqF h3]
          by_cases h4 : kd = 4
          · subst h4
            simp -implicitDefEqProofs (disch := first | assumption | (simp only [wnA]; done) | (simp only [wnA]; omega) | omega) [wkA,rtZ,sbZ,dC,ev,fiZ,pkZ,putAt,bnd,slD,gZ0,gZ1,dR_sl,Mem.cell,Mem.row,wmA]
            refine hP.store s.at_ s.left 1 6 (.int .i64 1) (by simp [wkA,rtZ,sbZ,dC,ev,fiZ,pkZ,putAt,bnd,slD,gZ0,gZ1,dR_sl]) (by simp [wkA,rtZ,sbZ,dC,ev,fiZ,pkZ,putAt,bnd,slD,gZ0,gZ1,dR_sl]) rfl (by omega) rfl fun M2 hP2 k2 => ?_
            simp -implicitDefEqProofs (disch := first | assumption | (simp only [wnA]; done) | (simp only [wnA]; omega) | omega) [rc69_3,wkA,rtZ,sbZ,dC,ev,fiZ,pkZ,putAt,bnd,slD,gZ0,gZ1,dR_sl,Mem.cell,Mem.row,wmA]
            exact hq M2 _ [] _ (.done rfl) hP2 (kM0 _ k2) (NewB.nil _ _) fun i hi => .inl hi
          · simp -implicitDefEqProofs (disch := first | assumption | (simp only [wnA]; done) | (simp only [wnA]; omega) | omega) [wkA,rtZ,sbZ,dC,ev,fiZ,pkZ,putAt,bnd,slD,gZ0,gZ1,dR_sl,Mem.cell,Mem.row,wmA,beqF h4]
            refine hP.store s.at_ s.left 2 6 (.int .i64 2) (by simp [wkA,rtZ,sbZ,dC,ev,fiZ,pkZ,putAt,bnd,slD,gZ0,gZ1,dR_sl]) (by simp [wkA,rtZ,sbZ,dC,ev,fiZ,pkZ,putAt,bnd,slD,gZ0,gZ1,dR_sl]) rfl (by omega) rfl fun M2 hP2 k2 => ?_
            simp -implicitDefEqProofs (disch := first | assumption | (simp only [wnA]; done) | (simp only [wnA]; omega) | omega) [rc69_3,wkA,rtZ,sbZ,dC,ev,fiZ,pkZ,putAt,bnd,slD,gZ0,gZ1,dR_sl,Mem.cell,Mem.row,wmA]
            exact hq M2 _ [] _ (.fail h0 h1 h2 h3 h4) hP2 (kM0 _ k2) (NewB.nil _ _) fun i hi => .inl hi
section
variable (G : List (List UInt8) → Prop) (P : List (List UInt8) → List (Tab × List Bool) → Prop)
inductive RunR (l : List DV) : Nat → PlS → List UInt8 → PlS → List UInt8 → Prop
  | stop (n : Nat) (s : PlS) (out : List UInt8) : (s.st ≠ 0 ∨ s.wat ≠ none) → RunR l n s out s out
  | ill (n : Nat) (s : PlS) (out : List UInt8) : s.st = 0 → s.wat = none → (n = 256 ∨ (l.length : Int) ≤ s.at_) → RunR l n s out { s with st := 2 } out
  | step (n : Nat) (s s1 s2 : PlS) (x : DV) (o out out2 : List UInt8) : s.st = 0 → s.wat = none → n < 256 → 0 ≤ s.at_ → l[s.at_.toNat]? = some x → OneR G P l x.1 s s1 o → RunR l (n + 1) s1 (out ++ o) s2 out2 → RunR l n s out s2 out2
end
structure StepsOk (w0 : World) (G : List (List UInt8) → Prop) (P : List (List UInt8) → List (Tab × List Bool) → Prop) (l : List DV) : Prop where
  len : l.length ≤ 1000
  sz : ∀ x ∈ l,x.1.arms.length ≤ 1000 ∧ x.1.tx.length ≤ 1000
  of : ∀ x ∈ l,x.1.kd = 1 → OfC w0 (pats x.1) (G (pats x.1)) (P (pats x.1))
structure SafeJ (G : List (List UInt8) → Prop) (P : List (List UInt8) → List (Tab × List Bool) → Prop) (l : List DV) (J : PlS → Prop) : Prop where
  pos : ∀ s,J s → 0 ≤ s.at_
  one : ∀ s x s' o,J s → s.st = 0 → s.wat = none → l[s.at_.toNat]? = some x → OneR G P l x.1 s s' o → J s'
theorem OneR.len {G : List (List UInt8) → Prop} {P : List (List UInt8) → List (Tab × List Bool) → Prop} {l : List DV} {x : DS} {s s' : PlS} {o : List UInt8} (h : OneR G P l x s s' o) : o = [] ∨ o = x.tx := by
  cases h <;> first | exact .inl rfl | exact .inr rfl
theorem c_run {w0 : World} {V : List Nat} {m : Mem} {ip : Nat} {sv : Value} {l : List DV} {s : PlS} {G : List (List UInt8) → Prop} {P : List (List UInt8) → List (Tab × List Bool) → Prop} {J : PlS → Prop} {Q : Value → Mem → Prop} (h : PlayV V m ip sv l s) (hS : StepsOk w0 G P l) (hJ : SafeJ G P l J) (hs : J s) (hV : ∀ i ∈ V,i < L0.n → False)
    (hq : ∀ m' s' out ob,RunR G P l 0 s [] s' out → PlayV V m' ip sv l s' → Keeps (fun i => i ∉ ownP ip s) m m' → SlO m' 5 1 ob (out.map byteV) out.length → (∀ i,ob = some i → m.next ≤ i) → (∀ i ∈ ownP ip s',i ∈ ownP ip s ∨ m.next ≤ i) → Q (slV ob out.length 1) m') :
    AbC Tryz.prog w0 50 [.pointer (some ⟨ip,0,none⟩)] m Q := by
  refine AbC_fn ok50 (by simp) ?_
  simp -implicitDefEqProofs (disch := first | assumption | (simp only [wnA]; done) | (simp only [wnA]; omega) | omega) [rc50,ro50,wkA,rtZ,sbZ,dC,ev,fiZ,pkZ,putAt,bnd,slD,gZ0,gZ1,dR_sl,Mem.cell,Mem.row,wmA]
  have hll := hS.len
  refine LoopW_of (fun k ts m' => ∃ (n : Nat) (s1 : PlS) (out : List UInt8) (ob : Option Nat),n + k = 257 ∧ n ≤ 256 ∧ (∀ s2 out2,RunR G P l n s1 out s2 out2 → RunR G P l 0 s [] s2 out2) ∧ J s1 ∧ PlayV (ob.toList ++ V) m' ip sv l s1 ∧ Keeps (fun i => i ∉ ownP ip s) m m' ∧ SlO m' 5 1 ob (out.map byteV) out.length ∧ (∀ i,ob = some i → m.next ≤ i) ∧ (∀ i ∈ ownP ip s1,i ∈ ownP ip s ∨ m.next ≤ i) ∧ out.length ≤ n * 1000 ∧
    ts 0 = .pointer (some ⟨ip,0,none⟩) ∧ ts 3 = slV ob out.length 1 ∧ ts 4 = .int .i64 (n : Nat)) 257 ?_ ?_
  · exact ⟨0,s,[],none,rfl,by omega,fun _ _ h => h,hs,h,Keeps.refl _ _,⟨rfl,rfl⟩,(fun i hi => by cases hi),(fun i hi => .inl hi),by simp,by simp [frA_at],by simp; rfl,by simp⟩
  · rintro k ts m1 K ⟨n,s1,out,ob,hk,hn,hR,hJs,hP,kk,so,hob,how,hol,t0,t3,t4⟩ hK
    have g1 : m1.get ip = .own [sv,.int .i64 s1.at_,.map (some s1.im),watP s1.wat,.int .i64 s1.left,.int .i64 0,.int .i64 s1.st,slV s1.ot s1.tr.length 1] 121 := hP.g
    have back : ∀ (s2 : PlS) (M : Mem),PlayV (ob.toList ++ V) M ip sv l s2 → PlayV V M ip sv l s2 := fun s2 M hM => hM.other (Keeps.refl _ _) (fun i hi => .inl (List.mem_append_right _ hi)) (fun i hi => hM.lt i (List.mem_append_right _ (List.mem_append_right _ hi))) fun i hi hlo => by
      rcases List.mem_append.1 hi with hi | hi
      · have : ob = some i := by simpa using hi
        have h1 := hob i this; have h2 := h.pt.1; omega
      · exact hV i hi hlo
    simp -implicitDefEqProofs (disch := first | assumption | (simp only [wnA]; done) | (simp only [wnA]; omega) | omega) [rc50_1,wkA,rtZ,sbZ,dC,ev,fiZ,pkZ,putAt,bnd,slD,gZ0,gZ1,dR_sl,Mem.cell,Mem.row,wmA,t0,g1]
    by_cases h0 : s1.st = 0
    · cases hw : s1.wat with
      | some w =>
        rw [hw] at g1
        simp -implicitDefEqProofs (disch := first | assumption | (simp only [wnA]; done) | (simp only [wnA]; omega) | omega) [rc50_2,wkA,rtZ,sbZ,dC,ev,fiZ,pkZ,putAt,bnd,slD,gZ0,gZ1,dR_sl,Mem.cell,Mem.row,wmA,h0,t0,g1,watP,t3]
        exact hq m1 s1 out ob (hR _ _ (.stop _ _ _ (.inr (by rw [hw]; simp)))) (back _ _ hP) kk so hob how
      | none =>
        rw [hw] at g1
        have hsl := hP.ds.sl.sl.slen
        have ill : (n = 256 ∨ (l.length : Int) ≤ s1.at_) → ∀ (M : Mem),PlayV (ob.toList ++ V) M ip sv l { s1 with st := 2 } → Keeps (fun i => i ≠ ip) m1 M → Q (slV ob out.length 1) M := fun hi M hM kM =>
          hq M _ out ob (hR _ _ (.ill _ _ _ h0 hw hi)) (back _ _ hM) (kk.trans (kM.mono fun i hi2 hni e => by
            have hip := h.lt ip h.ipo
            exact hni (by rw [e]; simp [ownP]))) (so.keep kM.1 fun b hb => kM.2 b (by subst hb; exact so.lt) (fun e => by have := hob b hb; have := h.lt ip h.ipo; omega)) hob how
        by_cases h256 : n = 256
        · subst h256
          simp -implicitDefEqProofs (disch := first | assumption | (simp only [wnA]; done) | (simp only [wnA]; omega) | omega) [rc50_0,wkA,rtZ,sbZ,dC,ev,fiZ,pkZ,putAt,bnd,slD,gZ0,gZ1,dR_sl,Mem.cell,Mem.row,wmA,h0,t0,g1,watP,t4]
          refine hP.store s1.at_ s1.left 2 6 (.int .i64 2) (by simp [wkA,rtZ,sbZ,dC,ev,fiZ,pkZ,putAt,bnd,slD,gZ0,gZ1,dR_sl,t0]) (by simp [wkA,rtZ,sbZ,dC,ev,fiZ,pkZ,putAt,bnd,slD,gZ0,gZ1,dR_sl]) rfl (by omega) rfl fun M2 hP2 k2 => ?_
          simp -implicitDefEqProofs (disch := first | assumption | (simp only [wnA]; done) | (simp only [wnA]; omega) | omega) [rc50_2,wkA,rtZ,sbZ,dC,ev,fiZ,pkZ,putAt,bnd,slD,gZ0,gZ1,dR_sl,Mem.cell,Mem.row,wmA,t3]
          exact ill (.inl rfl) M2 hP2 k2
        · have hn2 : ((n : Int) == 256) = false := beqF (by omega)
          by_cases hat : (l.length : Int) ≤ s1.at_
          · simp -implicitDefEqProofs (disch := first | assumption | (simp only [wnA]; done) | (simp only [wnA]; omega) | omega) [rc50_0,wkA,rtZ,sbZ,dC,ev,fiZ,pkZ,putAt,bnd,slD,gZ0,gZ1,dR_sl,Mem.cell,Mem.row,wmA,h0,t0,g1,watP,t4,hn2,hsl,hat]
            refine hP.store s1.at_ s1.left 2 6 (.int .i64 2) (by simp [wkA,rtZ,sbZ,dC,ev,fiZ,pkZ,putAt,bnd,slD,gZ0,gZ1,dR_sl,t0]) (by simp [wkA,rtZ,sbZ,dC,ev,fiZ,pkZ,putAt,bnd,slD,gZ0,gZ1,dR_sl]) rfl (by omega) rfl fun M2 hP2 k2 => ?_
            simp -implicitDefEqProofs (disch := first | assumption | (simp only [wnA]; done) | (simp only [wnA]; omega) | omega) [rc50_2,wkA,rtZ,sbZ,dC,ev,fiZ,pkZ,putAt,bnd,slD,gZ0,gZ1,dR_sl,Mem.cell,Mem.row,wmA,t3]
            exact ill (.inr hat) M2 hP2 k2
          · have hpos := hJ.pos _ hJs
            obtain ⟨j,hj⟩ : ∃ j : Nat,s1.at_ = (j : Int) := ⟨s1.at_.toNat,by omega⟩
            have hjl : j < l.length := by omega
            obtain ⟨x,hx⟩ : ∃ x,l[j] = x := ⟨_,rfl⟩
            have hxm : x ∈ l := by rw [← hx]; exact List.getElem_mem hjl
            have hxa : l[s1.at_.toNat]? = some x := by rw [hj,Int.toNat_natCast,List.getElem?_eq_getElem hjl,hx]
            obtain ⟨bi,bo,L,hvv,hL,hLl,hLt,-⟩ := hP.ds.sl.sl.at hjl
            rw [flat_at vC_len l (List.getElem?_eq_getElem hjl),hx] at hLt
            have hsx : sidx 7 sv (.int .i64 (j : Int)) = some (.pointer (some ⟨bi,bo + j * 7,none⟩)) := by rw [hvv]; exact sidx_at hjl
            have hle : bo + j * 7 + 7 ≤ L.length := by omega
            rw [hj] at g1
            have hat' : ¬ (l.length : Int) ≤ (j : Int) := by omega
            simp -implicitDefEqProofs (disch := first | assumption | (simp only [wnA]; done) | (simp only [wnA]; omega) | omega) [rc50_0,wkA,rtZ,sbZ,dC,ev,fiZ,pkZ,putAt,bnd,slD,gZ0,gZ1,dR_sl,Mem.cell,Mem.row,wmA,h0,t0,g1,watP,t3,t4,hn2,hsl,hat',hsx,hL,hLt,hle]
            refine c_one hP (by omega) hw hxm (by have := (hS.sz x hxm).1; omega) (by have := (hS.sz x hxm).2; omega) (hS.of x hxm) fun m2 s2 o v hO hP2 k2 hB how2 => ?_
            have k02 : Keeps (fun i => i ∉ ownP ip s) m m2 := ⟨Nat.le_trans kk.1 k2.1,fun i hi hni => by
              rw [k2.2 i (Nat.lt_of_lt_of_le hi kk.1) (fun hm => by rcases how i hm with h1 | h1; exact hni h1; omega)]
              exact kk.2 i hi hni⟩
            have hobV : ∀ b,ob = some b → b ∉ ownP ip s1 := fun b hb hm => hP.dj b hm (by simp [hb])
            have so2 : SlO m2 5 1 ob (out.map byteV) out.length := so.keep k2.1 fun b hb => k2.2 b (by subst hb; exact so.lt) (hobV b hb)
            have how' : ∀ i ∈ ownP ip s2,i ∈ ownP ip s ∨ m.next ≤ i := fun i hi => by
              rcases how2 i hi with h1 | h1
              · exact how i h1
              · right; have := kk.1; omega
            have hJ2 := hJ.one _ _ _ _ hJs h0 hw hxa hO
            have hR2 : ∀ s3 out3,RunR G P l (n + 1) s2 (out ++ o) s3 out3 → RunR G P l 0 s [] s3 out3 := fun s3 out3 hr => hR _ _ (.step n s1 s2 s3 x o out out3 h0 hw (by omega) hpos hxa hO hr)
            have hol2 : o.length ≤ 1000 := by
              rcases hO.len with rfl | rfl
              · simp
              · exact (hS.sz x hxm).2
            have hnw : IntKind.i64.wrap ((n : Int) + 1) = ((n + 1 : Nat) : Int) := by rw [w64 (by omega)]; omega
            have fin : ∀ (fr' : Fr) (M : Mem) (ob' : Option Nat),PlayV (ob'.toList ++ V) M ip sv l s2 → Keeps (fun i => i ∉ ownP ip s) m M → SlO M 5 1 ob' ((out ++ o).map byteV) (out ++ o).length → (∀ i,ob' = some i → m.next ≤ i) → fr' 0 = .pointer (some ⟨ip,0,none⟩) → fr' 3 = slV ob' (out ++ o).length 1 → fr' 4 = .int .i64 ((n + 1 : Nat) : Int) → K fr' M := fun fr' M ob' hPM kM sM hobM e0 e3 e4 =>
              hK (k - 1) _ _ (by omega) ⟨n + 1,s2,out ++ o,ob',by omega,by omega,hR2,hJ2,hPM,kM,sM,hobM,how',by rw [List.length_append]; omega,e0,e3,e4⟩
            have hel := hB.sl.elems
            have hlv := hB.sl.lenV
            have hsm : out.length + o.length ≤ 257000 := by omega
            simp -implicitDefEqProofs (disch := first | assumption | (simp only [wnA]; done) | (simp only [wnA]; omega) | omega) [wkA,rtZ,sbZ,dC,ev,fiZ,pkZ,putAt,bnd,slD,gZ0,gZ1,dR_sl,Mem.cell,Mem.row,wmA]
            cases o with
            | nil =>
              refine SK_app0 (ob := ob) (n := out.length) (ys := []) (by simp [wkA,rtZ,sbZ,dC,ev,fiZ,pkZ,putAt,bnd,slD,gZ0,gZ1,dR_sl,t3]) (by simpa [wkA,rtZ,sbZ,dC,ev,fiZ,pkZ,putAt,bnd,slD,gZ0,gZ1,dR_sl] using hel) (by simpa [wkA,rtZ,sbZ,dC,ev,fiZ,pkZ,putAt,bnd,slD,gZ0,gZ1,dR_sl] using hlv) ?_
              simp -implicitDefEqProofs (disch := first | assumption | (simp only [wnA]; done) | (simp only [wnA]; omega) | omega) [wkA,rtZ,sbZ,dC,ev,fiZ,pkZ,putAt,bnd,slD,gZ0,gZ1,dR_sl,Mem.cell,Mem.row,wmA,t4,hnw]
              exact fin _ m2 ob hP2 k02 (by rw [List.append_nil]; exact so2) hob (by simp [t0]) (by simp) (by simp)
            | cons o1 os =>
              refine SK_ap (ob := ob) (n := out.length) (k := (o1 :: os).length) (cs := out.map byteV) (ys := (o1 :: os).map byteV) so2 (by simp [wkA,rtZ,sbZ,dC,ev,fiZ,pkZ,putAt,bnd,slD,gZ0,gZ1,dR_sl,t3]) (by simpa [wkA,rtZ,sbZ,dC,ev,fiZ,pkZ,putAt,bnd,slD,gZ0,gZ1,dR_sl] using hel) (by simpa [wkA,rtZ,sbZ,dC,ev,fiZ,pkZ,putAt,bnd,slD,gZ0,gZ1,dR_sl] using hlv) (by simp) (byteV_oneC _) (by simp only [Nat.mul_one]; omega) (by simp only [maxLen]; omega) (by simp) ?_
              obtain ⟨M3,hM3⟩ : ∃ M,(m2.kill ob).push (.own (out.map byteV ++ (o1 :: os).map byteV) 5) = M := ⟨_,rfl⟩
              have s3 : SlO M3 5 1 (some m2.next) ((out ++ o1 :: os).map byteV) (out ++ o1 :: os).length := by
                rw [List.map_append,← hM3]
                exact SlO.new (by simp)
              have kO : ∀ Y : Nat → Prop,(∀ b,ob = some b → ¬ Y b) → Keeps Y m2 M3 := fun Y hY => by
                subst hM3
                refine ⟨by simp [Mem.kill_nxt],fun i hi hy => ?_⟩
                rw [Mem.push_old _ _ (by rw [Mem.kill_nxt]; exact hi),Mem.kill_other _ (fun e => hY i e hy)]
              have n3 : M3.next = m2.next + 1 := by subst hM3; simp [Mem.kill_nxt]
              have hle2 : m.next ≤ m2.next := k02.1
              have hP3 : PlayV ((some m2.next).toList ++ V) M3 ip sv l s2 := hP2.other (kO _ (fun b hb hn => hn (by simp [hb]))) (fun i hi => by
                rcases List.mem_append.1 hi with hi | hi
                · right; simp at hi; omega
                · exact .inl (List.mem_append_right _ hi)) (fun i hi => by
                rcases List.mem_append.1 hi with hi | hi
                · simp at hi; omega
                · have := h.lt i (List.mem_append_right _ hi); omega) fun i hi hlo => by
                rcases List.mem_append.1 hi with hi | hi
                · have : ob = some i := by simpa using hi
                  have h1 := hob i this; have h2 := h.pt.1; omega
                · exact hV i hi hlo
              have k03 : Keeps (fun i => i ∉ ownP ip s) m M3 := ⟨by omega,fun i hi hni => by
                have hk3 := (kO (fun i => i < m.next) (fun b hb hlt => by have := hob b hb; omega)).2 i (by omega) hi
                rw [hk3]; exact k02.2 i hi hni⟩
              rw [hM3]
              clear hM3
              simp -implicitDefEqProofs (disch := first | assumption | (simp only [wnA]; done) | (simp only [wnA]; omega) | omega) [wkA,rtZ,sbZ,dC,ev,fiZ,pkZ,putAt,bnd,slD,gZ0,gZ1,dR_sl,Mem.cell,Mem.row,wmA,t4,hnw]
              exact fin _ M3 (some m2.next) hP3 k03 s3 (fun i hi => by cases hi; exact hle2) (by simp [t0]) (by simp) (by simp)
    · simp -implicitDefEqProofs (disch := first | assumption | (simp only [wnA]; done) | (simp only [wnA]; omega) | omega) [rc50_2,wkA,rtZ,sbZ,dC,ev,fiZ,pkZ,putAt,bnd,slD,gZ0,gZ1,dR_sl,Mem.cell,Mem.row,wmA,beqF h0,t3]
      exact hq m1 s1 out ob (hR _ _ (.stop _ _ _ (.inl h0))) (back _ _ hP) kk so hob how
theorem c_State {w0 : World} {V : List Nat} {m : Mem} {ip : Nat} {sv : Value} {l : List DV} {s : PlS} {Q : Value → Mem → Prop} (h : PlayV V m ip sv l s) (hq : Q (.int .i64 s.st) m) : AbC Tryz.prog w0 51 [.pointer (some ⟨ip,0,none⟩)] m Q := by
  refine AbC_fn ok51 (by simp) ?_
  have g : m.get ip = .own [sv,.int .i64 s.at_,.map (some s.im),watP s.wat,.int .i64 s.left,.int .i64 0,.int .i64 s.st,slV s.ot s.tr.length 1] 121 := h.g
  simp -implicitDefEqProofs (disch := first | assumption | (simp only [wnA]; done) | (simp only [wnA]; omega) | omega) [rc51,ro51,wkA,rtZ,sbZ,dC,ev,fiZ,pkZ,putAt,bnd,slD,gZ0,gZ1,dR_sl,Mem.cell,Mem.row,wmA,g]
  exact hq
theorem PlayV.re {V : List Nat} {m M : Mem} {ip : Nat} {sv : Value} {l : List DV} {s s' : PlS} (h : PlayV V m ip sv l s) (k : Keeps (fun i => i ∉ ownP ip s) m M) (g : M.get ip = .own (plC sv s') 121) (hm : MapI M s'.im s'.f) (ho : SlO M 3 1 s'.ot (s'.tr.map (.int .i64)) s'.tr.length)
    (hw : ∀ w,s'.wat = some w → WatV (fun i => i ∉ ownP ip s' ++ V) M w.iw w.ia w.ws w.seen w.over) (hn : (ownP ip s').Nodup) (hi : ∀ i ∈ ownP ip s',(i ∈ ownP ip s ∨ m.next ≤ i) ∧ i < M.next) : PlayV V M ip sv l s' := by
  have hX : ∀ i,i < m.next → i ∉ ownP ip s ++ V → i ∉ ownP ip s' ++ V := fun i hl hni hm => by
    rcases List.mem_append.1 hm with hm | hm
    · rcases (hi i hm).1 with h1 | h1
      · exact hni (List.mem_append_left _ h1)
      · omega
    · exact hni (List.mem_append_right _ hm)
  have k2 : Keeps (fun i => i < m.next ∧ i ∉ ownP ip s ++ V) m M := k.mono fun i _ hx hm => hx.2 (List.mem_append_left _ hm)
  refine ⟨g,((h.ds.mono fun i hl hx => (⟨hl,hx⟩ : i < m.next ∧ i ∉ ownP ip s ++ V)).keep k2).mono fun i _ hx => hX i hx.1 hx.2,hm,ho,hw,hn,?_,h.pt.keeps k (fun i hl hm => by have := h.lo i hm; omega),?_,?_⟩
  · intro i hm
    rcases List.mem_append.1 hm with hm | hm
    · exact (hi i hm).2
    · exact Nat.lt_of_lt_of_le (h.lt i (List.mem_append_right _ hm)) k.1
  · intro i hm
    rcases (hi i hm).1 with h1 | h1
    · exact h.lo i h1
    · exact Nat.le_trans h.pt.1 h1
  · intro i hm hV
    rcases (hi i hm).1 with h1 | h1
    · exact h.dj i h1 hV
    · have := h.lt i (List.mem_append_right _ hV); omega
theorem PlayV.dropW {V : List Nat} {m M : Mem} {ip : Nat} {sv : Value} {l : List DV} {s : PlS} (h : PlayV V m ip sv l s) (hM : m.set ip (.own (plC sv { s with wat := none }) 121) = M) : PlayV V M ip sv l { s with wat := none } := by
  have hnd := h.nd
  have hsub : ∀ i ∈ ownP ip { s with wat := none },i ∈ ownP ip s := fun i hi => by
    simp only [ownP,List.mem_cons,List.mem_append,List.not_mem_nil,or_false] at hi ⊢
    rcases hi with hi | hi | hi
    · exact .inl hi
    · exact .inr (.inl hi)
    · exact .inr (.inr (.inl hi))
  have hnd2 := hnd
  simp only [ownP,List.nodup_cons,List.mem_cons,List.mem_append,not_or] at hnd2
  subst hM
  refine h.re ((Keeps.refl _ _).set (fun _ hn => hn (by simp [ownP])) _) (by rw [Mem.set_same]) ?_ ?_ (fun w hw => by cases hw) ?_ fun i hi => ⟨.inl (hsub i hi),h.lt i (List.mem_append_left _ (hsub i hi))⟩
  · obtain ⟨es,c,g,h2⟩ := h.mp
    exact ⟨es,c,by rw [Mem.set_other _ _ (fun e => hnd2.1.1 e.symm)]; exact g,h2⟩
  · exact h.ot.keep (Nat.le_refl _) fun b hb => Mem.set_other _ _ fun e => hnd2.1.2.1 (by rw [← e]; simp [hb])
  · have : ownP ip { s with wat := none } = ip :: s.im :: s.ot.toList := by simp [ownP]
    rw [this]
    refine List.Nodup.sublist ?_ hnd
    simp only [ownP]
    exact List.Sublist.cons_cons _ (List.Sublist.cons_cons _ (List.sublist_append_left _ _))
section
variable (G : List (List UInt8) → Prop) (P : List (List UInt8) → List (Tab × List Bool) → Prop)
inductive TickR (l : List DV) (s : PlS) : PlS → List UInt8 → Prop
  | off : s.st ≠ 0 ∨ s.wat = none → TickR l s s []
  | wait : s.st = 0 → s.wat ≠ none → IntKind.i64.wrap (s.left - 1) > 0 → TickR l s { s with left := IntKind.i64.wrap (s.left - 1) } []
  | go (x : DV) (s2 : PlS) (out : List UInt8) : s.st = 0 → s.wat ≠ none → ¬ IntKind.i64.wrap (s.left - 1) > 0 → 0 ≤ s.at_ → l[s.at_.toNat]? = some x → RunR G P l 0 { s with left := IntKind.i64.wrap (s.left - 1),wat := none,at_ := findN x.1.to l 0 } [] s2 out → TickR l s s2 out
end
theorem c_plTick {w0 : World} {V : List Nat} {m : Mem} {ip : Nat} {sv : Value} {l : List DV} {s : PlS} {G : List (List UInt8) → Prop} {P : List (List UInt8) → List (Tab × List Bool) → Prop} {J : PlS → Prop} {Q : Value → Mem → Prop} (h : PlayV V m ip sv l s) (hS : StepsOk w0 G P l) (hJ : SafeJ G P l J) (hV : ∀ i ∈ V,i < L0.n → False)
    (hs : s.st = 0 → s.wat ≠ none → 0 ≤ s.at_ ∧ ∃ x,l[s.at_.toNat]? = some x ∧ J { s with left := IntKind.i64.wrap (s.left - 1),wat := none,at_ := findN x.1.to l 0 })
    (hq : ∀ m' s' out ob,TickR G P l s s' out → PlayV V m' ip sv l s' → Keeps (fun i => i ∉ ownP ip s) m m' → SlO m' 5 1 ob (out.map byteV) out.length → (∀ i,ob = some i → m.next ≤ i) → (∀ i ∈ ownP ip s',i ∈ ownP ip s ∨ m.next ≤ i) → Q (slV ob out.length 1) m') :
    AbC Tryz.prog w0 39 [.pointer (some ⟨ip,0,none⟩)] m Q := by
  refine AbC_fn ok39 (by simp) ?_
  have g : m.get ip = .own [sv,.int .i64 s.at_,.map (some s.im),watP s.wat,.int .i64 s.left,.int .i64 0,.int .i64 s.st,slV s.ot s.tr.length 1] 121 := h.g
  have nil : TickR G P l s s [] → Q (.slice none 0 0) m := fun hr => by
    have := hq m s [] none hr h (Keeps.refl _ _) ⟨rfl,rfl⟩ (fun i hi => by cases hi) (fun i hi => .inl hi)
    exact this
  by_cases h0 : s.st = 0
  · cases hw : s.wat with
    | none =>
      rw [hw] at g
      simp -implicitDefEqProofs (disch := first | assumption | (simp only [wnA]; done) | (simp only [wnA]; omega) | omega) [rc39,ro39,wkA,rtZ,sbZ,dC,ev,fiZ,pkZ,putAt,bnd,slD,gZ0,gZ1,dR_sl,Mem.cell,Mem.row,wmA,g,h0,watP]
      exact nil (.off (.inr hw))
    | some w =>
      rw [hw] at g
      have hne : s.wat ≠ none := by rw [hw]; simp
      simp -implicitDefEqProofs (disch := first | assumption | (simp only [wnA]; done) | (simp only [wnA]; omega) | omega) [rc39,ro39,rc39_1,wkA,rtZ,sbZ,dC,ev,fiZ,pkZ,putAt,bnd,slD,gZ0,gZ1,dR_sl,Mem.cell,Mem.row,wmA,g,h0,watP]
      refine h.store s.at_ (IntKind.i64.wrap (s.left - 1)) s.st 4 (.int .i64 (IntKind.i64.wrap (s.left - 1))) (by simp [wkA,rtZ,sbZ,dC,ev,fiZ,pkZ,putAt,bnd,slD,gZ0,gZ1,dR_sl]) (by simp [wkA,rtZ,sbZ,dC,ev,fiZ,pkZ,putAt,bnd,slD,gZ0,gZ1,dR_sl]) rfl (by omega) rfl fun M2 hP2 k2 => ?_
      have g2 : M2.get ip = .own [sv,.int .i64 s.at_,.map (some s.im),watP s.wat,.int .i64 (IntKind.i64.wrap (s.left - 1)),.int .i64 0,.int .i64 s.st,slV s.ot s.tr.length 1] 121 := hP2.g
      have kF : Keeps (fun i => i ∉ ownP ip s) m M2 := k2.mono fun i _ hi e => hi (by rw [e]; simp [ownP])
      by_cases hlf : IntKind.i64.wrap (s.left - 1) > 0
      · simp -implicitDefEqProofs (disch := first | assumption | (simp only [wnA]; done) | (simp only [wnA]; omega) | omega) [wkA,rtZ,sbZ,dC,ev,fiZ,pkZ,putAt,bnd,slD,gZ0,gZ1,dR_sl,Mem.cell,Mem.row,wmA,g2,gtT hlf]
        have := hq M2 _ [] none (.wait h0 hne hlf) hP2 kF ⟨rfl,rfl⟩ (fun i hi => by cases hi) (fun i hi => .inl hi)
        exact this
      · obtain ⟨hpos,x,hx,hJx⟩ := hs h0 hne
        obtain ⟨j,hj⟩ : ∃ j : Nat,s.at_ = (j : Int) := ⟨s.at_.toNat,by omega⟩
        rw [hj,Int.toNat_natCast] at hx
        have hjl : j < l.length := by
          rcases Nat.lt_or_ge j l.length with h' | h'
          · exact h'
          · rw [List.getElem?_eq_none h'] at hx; cases hx
        simp -implicitDefEqProofs (disch := first | assumption | (simp only [wnA]; done) | (simp only [wnA]; omega) | omega) [wkA,rtZ,sbZ,dC,ev,fiZ,pkZ,putAt,bnd,slD,gZ0,gZ1,dR_sl,Mem.cell,Mem.row,wmA,g2,gtF (show IntKind.i64.wrap (s.left - 1) ≤ 0 by omega),rc39_0]
        obtain ⟨M3,hM3⟩ : ∃ M,M2.set ip (.own (plC sv { s with left := IntKind.i64.wrap (s.left - 1),wat := none }) 121) = M := ⟨_,rfl⟩
        have hP3 := hP2.dropW hM3
        have k3 : Keeps (fun i => i ≠ ip) M2 M3 := by subst hM3; exact (Keeps.refl _ _).set (fun _ hn => hn rfl) _
        have g3 : M3.get ip = .own [sv,.int .i64 (j : Int),.map (some s.im),.pointer none,.int .i64 (IntKind.i64.wrap (s.left - 1)),.int .i64 0,.int .i64 s.st,slV s.ot s.tr.length 1] 121 := by rw [← hj]; exact hP3.g
        refine SK_stm (i := ip) (o := 3) (vs := [.pointer none]) (cs := plC sv { s with left := IntKind.i64.wrap (s.left - 1) }) (e := 121) (M := M3) (by simp [wkA,rtZ,sbZ,dC,ev,fiZ,pkZ,putAt,bnd,slD,gZ0,gZ1,dR_sl]) hP2.g (by simp [wkA,rtZ,sbZ,dC,ev,fiZ,pkZ,putAt,bnd,slD,gZ0,gZ1,dR_sl]) (by simp [plC]) rfl rfl hM3 ?_
        clear hM3
        obtain ⟨bi,bo,L,hvv,hL,hLl,hLt,hLc⟩ := hP3.ds.sl.sl.at hjl
        have hc5 := hLc 5 (by omega)
        have hxe : l[j] = x := by rw [List.getElem?_eq_getElem hjl] at hx; exact Option.some.inj hx
        rw [flat_at' vC_len l hx (by omega)] at hc5
        have hc5 : L[bo + j * 7 + 5]? = some (.string ⟨⟨x.1.to⟩⟩) := hc5
        have hsx : sidx 7 sv (.int .i64 (j : Int)) = some (.pointer (some ⟨bi,bo + j * 7,none⟩)) := by rw [hvv]; exact sidx_at hjl
        simp -implicitDefEqProofs (disch := first | assumption | (simp only [wnA]; done) | (simp only [wnA]; omega) | omega) [wkA,rtZ,sbZ,dC,ev,fiZ,pkZ,putAt,bnd,slD,gZ0,gZ1,dR_sl,Mem.cell,Mem.row,wmA,g3,hsx,hL,hc5,getL hc5]
        refine c_jump hP3 (by have := hS.len; omega) fun M4 k4 hP4 u => ?_
        simp -implicitDefEqProofs (disch := first | assumption | (simp only [wnA]; done) | (simp only [wnA]; omega) | omega) [wkA,rtZ,sbZ,dC,ev,fiZ,pkZ,putAt,bnd,slD,gZ0,gZ1,dR_sl,Mem.cell,Mem.row,wmA]
        have hsub : ∀ i ∈ ownP ip { s with left := IntKind.i64.wrap (s.left - 1),wat := none,at_ := findN x.1.to l 0 },i ∈ ownP ip s := fun i hi => by
          simp only [ownP,List.mem_cons,List.mem_append,List.not_mem_nil,or_false] at hi ⊢
          rcases hi with hi | hi | hi
          · exact .inl hi
          · exact .inr (.inl hi)
          · exact .inr (.inr (.inl hi))
        have k04 : Keeps (fun i => i ∉ ownP ip s) m M4 := kF.trans ((k3.trans k4).mono fun i _ hi e => hi (by rw [e]; simp [ownP]))
        refine c_run hP4 hS hJ hJx hV fun M5 s5 out ob hR hP5 k5 so hob how => ?_
        simp -implicitDefEqProofs (disch := first | assumption | (simp only [wnA]; done) | (simp only [wnA]; omega) | omega) [wkA,rtZ,sbZ,dC,ev,fiZ,pkZ,putAt,bnd,slD,gZ0,gZ1,dR_sl,Mem.cell,Mem.row,wmA]
        have hx0 : l[s.at_.toNat]? = some x := by rw [hj,Int.toNat_natCast]; exact hx
        refine hq M5 s5 out ob (.go x s5 out h0 hne hlf hpos hx0 hR) hP5 (k04.trans (k5.mono fun i _ hi hm => hi (hsub i hm))) so (fun i hi => Nat.le_trans k04.1 (hob i hi)) fun i hi => ?_
        rcases how i hi with h1 | h1
        · exact .inl (hsub i h1)
        · right; have := k04.1; omega
  · simp -implicitDefEqProofs (disch := first | assumption | (simp only [wnA]; done) | (simp only [wnA]; omega) | omega) [rc39,ro39,wkA,rtZ,sbZ,dC,ev,fiZ,pkZ,putAt,bnd,slD,gZ0,gZ1,dR_sl,Mem.cell,Mem.row,wmA,g,bneT h0]
    exact nil (.off (.inl h0))
theorem WatV.re {X Y : Nat → Prop} {m M : Mem} {iw ia : Nat} {ws : List WaE} {seen : Int} {over : Bool} (h : WatV X m iw ia ws seen over) (k : Keeps X m M) (k1 : M.get iw = m.get iw) (k2 : M.get ia = m.get ia) (hy : ∀ i,i < m.next → X i → Y i) (h1 : ¬ Y iw) (h2 : ¬ Y ia) (h3 : ∀ i,M.next ≤ i → Y i) : WatV Y M iw ia ws seen over := by
  obtain ⟨tv,g,r⟩ := h.g
  have kb : Keeps (fun i => i < m.next ∧ X i) m M := k.mono fun i _ hi => hi.2
  have mz : ∀ i,i < m.next → X i → (i < m.next ∧ X i) := fun i hi hx => ⟨hi,hx⟩
  have zy : ∀ i,i < M.next → (i < m.next ∧ X i) → Y i := fun i _ hi => hy i hi.1 hi.2
  exact ⟨⟨tv,k1.trans g,((r.mono mz).keep kb).mono zy⟩,k2.trans h.ga,fun e he => ⟨(((h.es e he).1.mono mz).keep kb).mono zy,(((h.es e he).2.1.mono mz).keep kb).mono zy,(h.es e he).2.2⟩,⟨h1,h2,h.own.2.2.1,Nat.lt_of_lt_of_le h.own.2.2.2.1 k.1,Nat.lt_of_lt_of_le h.own.2.2.2.2 k.1⟩,h.l,h3⟩
theorem PlayV.setT {V : List Nat} {m M1 M : Mem} {ip : Nat} {sv : Value} {l : List DV} {s : PlS} (h : PlayV V m ip sv l s) (k : Int) (hM1 : (m.kill s.ot).push (.own (s.tr.map (.int .i64) ++ [.int .i64 k]) 3) = M1) (hM : M1.set ip (.own (plC sv { s with ot := some m.next,tr := s.tr ++ [k] }) 121) = M) : PlayV V M ip sv l { s with ot := some m.next,tr := s.tr ++ [k] } := by
  have hnd := h.nd
  have hip := h.lt ip h.ipo
  have n1 : M.next = m.next + 1 := by subst hM hM1; simp [Mem.kill_nxt]
  have hget : ∀ i,i < m.next → i ≠ ip → s.ot ≠ some i → M.get i = m.get i := fun i hi h1 h2 => by
    subst hM hM1
    rw [Mem.set_other _ _ h1,Mem.push_old _ _ (by rw [Mem.kill_nxt]; exact hi),Mem.kill_other _ h2]
  have kk : Keeps (fun i => i ∉ ownP ip s) m M := ⟨by omega,fun i hi hn => hget i hi (fun e => hn (by simp [ownP,e])) (fun e => hn (by simp [ownP,e]))⟩
  simp only [ownP,List.nodup_cons,List.mem_cons,List.mem_append,not_or] at hnd
  have him := h.lt s.im (by simp [ownP])
  refine h.re kk (by subst hM; rw [Mem.set_same]) ?_ ?_ ?_ ?_ ?_
  · obtain ⟨es,c,g,h2⟩ := h.mp
    exact ⟨es,c,(hget _ him (fun e => hnd.1.1 e.symm) (fun e => hnd.2.1.1 (by simp [e]))).trans g,h2⟩
  · have so : SlO M1 3 1 (some m.next) (s.tr.map (.int .i64) ++ [.int .i64 k]) (s.tr.length + 1) := by
      have := SlO.new (m := m.kill s.ot) (e := 3) (sz := 1) (n := s.tr.length + 1) (cs := s.tr.map (.int .i64) ++ [.int .i64 k]) (by simp)
      rw [hM1] at this
      simpa [Mem.kill_nxt] using this
    have e : (s.tr ++ [k]).map (Value.int .i64) = s.tr.map (.int .i64) ++ [.int .i64 k] := by simp
    show SlO M 3 1 (some m.next) ((s.tr ++ [k]).map (.int .i64)) (s.tr ++ [k]).length
    rw [e,List.length_append]
    subst hM
    exact so.set (by simp; omega) _
  · intro w hw
    have hw' : s.wat = some w := hw
    have hwv := h.wt w hw'
    rw [hw'] at hnd
    have i1 : w.iw ∈ ownP ip { s with ot := some m.next,tr := s.tr ++ [k] } := by simp [ownP,hw']
    have i2 : w.ia ∈ ownP ip { s with ot := some m.next,tr := s.tr ++ [k] } := by simp [ownP,hw']
    have hdot : ∀ i,i ∈ [w.iw,w.ia] → s.ot ≠ some i := fun i hi e => by
      have := (List.nodup_append.1 hnd.2.2).2.2 i (by simp [e]) i hi
      exact this rfl
    refine hwv.re (kk.mono fun i _ hi hm => hi (List.mem_append_left _ hm)) (hget _ hwv.own.2.2.2.1 (fun e => hnd.1.2.2 (by rw [← e]; simp)) (hdot _ (by simp))) (hget _ hwv.own.2.2.2.2 (fun e => hnd.1.2.2 (by rw [← e]; simp)) (hdot _ (by simp))) (fun i hi hx hm => ?_) (fun hn => hn (List.mem_append_left _ i1)) (fun hn => hn (List.mem_append_left _ i2)) fun i hi hm => ?_
    · rcases List.mem_append.1 hm with hm | hm
      · simp only [ownP,List.mem_cons,List.mem_append,Option.toList_some,List.mem_singleton,hw'] at hm
        refine hx (List.mem_append_left _ ?_)
        simp only [ownP,List.mem_cons,List.mem_append,hw']
        rcases hm with hm | hm | hm | hm
        · exact .inl hm
        · exact .inr (.inl hm)
        · simp at hm; omega
        · exact .inr (.inr (.inr hm))
      · exact hx (List.mem_append_right _ hm)
    · rcases List.mem_append.1 hm with hm | hm
      · simp only [ownP,List.mem_cons,List.mem_append,Option.toList_some,List.mem_singleton,List.not_mem_nil,or_false,hw'] at hm
        have hh1 := hwv.own.2.2.2.1; have hh2 := hwv.own.2.2.2.2
        rcases hm with hm | hm | hm | hm | hm
        · omega
        · omega
        · omega
        · omega
        · omega
      · have := h.lt i (List.mem_append_right _ hm); omega
  · simp only [ownP,List.nodup_cons,List.mem_cons,List.mem_append,Option.toList_some,List.cons_append,List.nil_append,not_or]
    have hlt : ∀ i ∈ (match s.wat with | none => [] | some w => [w.iw,w.ia]),i < m.next := fun i hi => h.lt i (List.mem_append_left _ (by simp only [ownP,List.mem_cons,List.mem_append]; exact .inr (.inr (.inr hi))))
    refine ⟨⟨hnd.1.1,by omega,hnd.1.2.2⟩,⟨by omega,hnd.2.1.2⟩,fun hm => by have := hlt _ hm; omega,(List.nodup_append.1 hnd.2.2).2.1⟩
  · intro i hi
    simp only [ownP,List.mem_cons,List.mem_append,Option.toList_some,List.mem_singleton,List.not_mem_nil,or_false] at hi
    have hall : ∀ i ∈ ownP ip s,i < m.next := fun i hi => h.lt i (List.mem_append_left _ hi)
    have key : i ∈ ownP ip s ∨ i = m.next := by
      simp only [ownP,List.mem_cons,List.mem_append]
      rcases hi with hi | hi | hi | hi
      · exact .inl (.inl hi)
      · exact .inl (.inr (.inl hi))
      · exact .inr hi
      · exact .inl (.inr (.inr (.inr hi)))
    rcases key with h1 | h1
    · exact ⟨.inl h1,by have := hall i h1; omega⟩
    · exact ⟨.inr (by omega),by omega⟩
def watC (c : UInt8) (w : WatS) : List (Tab × List Bool) := (w.ws.map WaE.core).map (coreS c)
def bestC (c : UInt8) (w : WatS) : Int := bestJ (watC c w) w.ws.length
section
variable (G : List (List UInt8) → Prop) (P : List (List UInt8) → List (Tab × List Bool) → Prop)
inductive PutR (l : List DV) (c : UInt8) (s : PlS) : PlS → List UInt8 → Prop
  | off : s.st ≠ 0 ∨ s.wat = none → PutR l c s s []
  | over (w : WatS) : s.st = 0 → s.wat = some w → w.over = true → PutR l c s s []
  | no (w w' : WatS) : s.st = 0 → s.wat = some w → w.over = false → w'.ws.map WaE.core = watC c w → w'.ws.length = w.ws.length → w'.over = false → bestC c w < 0 → PutR l c s { s with wat := some w' } []
  | go (w : WatS) (x : DV) (a : Arm) (o : Nat) (s2 : PlS) (out : List UInt8) : s.st = 0 → s.wat = some w → w.over = false → 0 ≤ bestC c w → 0 ≤ s.at_ → l[s.at_.toNat]? = some x → x.1.arms[(bestC c w).toNat]? = some a →
      RunR G P l 0 { s with wat := none,ot := some o,tr := s.tr ++ [bestC c w],at_ := findN a.to l 0 } [] s2 out → PutR l c s s2 out
end
theorem c_plPut {w0 : World} {V : List Nat} {m : Mem} {ip : Nat} {sv : Value} {l : List DV} {s : PlS} {c : UInt8} {G : List (List UInt8) → Prop} {P : List (List UInt8) → List (Tab × List Bool) → Prop} {J : PlS → Prop} {Q : Value → Mem → Prop} (h : PlayV V m ip sv l s) (hS : StepsOk w0 G P l) (hJ : SafeJ G P l J) (hV : ∀ i ∈ V,i < L0.n → False) (htr : s.tr.length ≤ 1000000000)
    (hs : ∀ w,s.st = 0 → s.wat = some w → w.over = false → 0 ≤ bestC c w → 0 ≤ s.at_ ∧ ∃ x a,l[s.at_.toNat]? = some x ∧ x.1.arms[(bestC c w).toNat]? = some a ∧ ∀ o,J { s with wat := none,ot := some o,tr := s.tr ++ [bestC c w],at_ := findN a.to l 0 })
    (hq : ∀ m' s' out ob,PutR G P l c s s' out → PlayV V m' ip sv l s' → Keeps (fun i => i ∉ ownP ip s) m m' → SlO m' 5 1 ob (out.map byteV) out.length → (∀ i,ob = some i → m.next ≤ i) → (∀ i ∈ ownP ip s',i ∈ ownP ip s ∨ m.next ≤ i) → Q (slV ob out.length 1) m') :
    AbC Tryz.prog w0 58 [.pointer (some ⟨ip,0,none⟩),.int .u8 (c.toNat : Int)] m Q := by
  refine AbC_fn ok58 (by simp) ?_
  have g : m.get ip = .own [sv,.int .i64 s.at_,.map (some s.im),watP s.wat,.int .i64 s.left,.int .i64 0,.int .i64 s.st,slV s.ot s.tr.length 1] 121 := h.g
  have nil : ∀ s' m',PutR G P l c s s' [] → PlayV V m' ip sv l s' → Keeps (fun i => i ∉ ownP ip s) m m' → (∀ i ∈ ownP ip s',i ∈ ownP ip s ∨ m.next ≤ i) → Q (.slice none 0 0) m' := fun s' m' hr hP k how => by
    have := hq m' s' [] none hr hP k ⟨rfl,rfl⟩ (fun i hi => by cases hi) how
    exact this
  by_cases h0 : s.st = 0
  · cases hw : s.wat with
    | none =>
      rw [hw] at g
      simp -implicitDefEqProofs (disch := first | assumption | (simp only [wnA]; done) | (simp only [wnA]; omega) | omega) [rc58,ro58,wkA,rtZ,sbZ,dC,ev,fiZ,pkZ,putAt,bnd,slD,gZ0,gZ1,dR_sl,Mem.cell,Mem.row,wmA,g,h0,watP]
      exact nil s m (.off (.inr hw)) h (Keeps.refl _ _) fun i hi => .inl hi
    | some w =>
      rw [hw] at g
      have hwv := h.wt w hw
      have i1 : w.iw ∈ ownP ip s := by simp [ownP,hw]
      have i2 : w.ia ∈ ownP ip s := by simp [ownP,hw]
      have hnd := h.nd
      have hnd0 := hnd
      simp only [ownP,hw,List.nodup_cons,List.mem_cons,List.mem_append,List.not_mem_nil,or_false,not_or] at hnd
      have hip := h.lt ip h.ipo
      simp -implicitDefEqProofs (disch := first | assumption | (simp only [wnA]; done) | (simp only [wnA]; omega) | omega) [rc58,ro58,rc58_1,wkA,rtZ,sbZ,dC,ev,fiZ,pkZ,putAt,bnd,slD,gZ0,gZ1,dR_sl,Mem.cell,Mem.row,wmA,g,h0,watP]
      refine c_WPut hwv (fun m1 ws1 seen1 hov kk hcore hit hWV => ?_) fun hov => ?_
      · have kF : Keeps (fun i => i ∉ ownP ip s) m m1 := kk.mono fun i _ hi => ⟨fun e => hi (by rw [e]; exact i1),fun e => hi (by rw [e]; exact i2)⟩
        have g1 : m1.get ip = m.get ip := kk.2 ip hip ⟨fun e => hnd.1.2.2.1 e,fun e => hnd.1.2.2.2 e⟩
        have hwl : ws1.length = w.ws.length := by have := congrArg List.length hit; simpa using this
        obtain ⟨w1,hw1⟩ : ∃ w1 : WatS,{ w with ws := ws1,seen := seen1,over := decide (0 ≤ bestC c w) } = w1 := ⟨_,rfl⟩
        have ho1 : ownP ip { s with wat := some w1 } = ownP ip s := by subst hw1; simp [ownP,hw]
        have hP1 : PlayV V m1 ip sv l { s with wat := some w1 } := by
          refine h.re kF ?_ ?_ ?_ ?_ ?_ ?_
          · rw [g1,h.g,← hw1]; simp [plC,hw,watP]
          · obtain ⟨es,cl,g2,h2⟩ := h.mp
            exact ⟨es,cl,(kk.2 _ (h.lt s.im (by simp [ownP])) ⟨fun e => hnd.2.1.2.1 e,fun e => hnd.2.1.2.2 e⟩).trans g2,h2⟩
          · refine h.ot.keep kk.1 fun b hb => kk.2 b (h.lt b (by simp [ownP,hb])) ?_
            have hdis := (List.nodup_append.1 hnd.2.2).2.2 b (by simp [hb])
            exact ⟨fun e => hdis w.iw (by simp) e,fun e => hdis w.ia (by simp) e⟩
          · intro w' hw'
            cases hw'
            rw [ho1]
            subst hw1
            exact hWV
          · rw [ho1]; exact hnd0
          · intro i hi
            rw [ho1] at hi
            exact ⟨.inl hi,Nat.lt_of_lt_of_le (h.lt i (List.mem_append_left _ hi)) kk.1⟩
        have hbe : bestJ ((w.ws.map WaE.core).map (coreS c)) w.ws.length = bestC c w := rfl
        rw [hbe]
        by_cases hb : bestC c w < 0
        · have e2 : decide (0 ≤ bestC c w) = false := by simp; omega
          rw [e2]
          simp -implicitDefEqProofs (disch := first | assumption | (simp only [wnA]; done) | (simp only [wnA]; omega) | omega) [wkA,rtZ,sbZ,dC,ev,fiZ,pkZ,putAt,bnd,slD,gZ0,gZ1,dR_sl,Mem.cell,Mem.row,wmA]
          refine nil _ m1 (.no w w1 h0 hw hov ?_ ?_ ?_ hb) hP1 kF fun i hi => .inl (by rw [ho1] at hi; exact hi)
          · subst hw1; exact hcore
          · subst hw1; exact hwl
          · subst hw1; exact e2
        · have e1 : max 0 (bestC c w) = bestC c w := by omega
          have e2 : decide (0 ≤ bestC c w) = true := by simp; omega
          rw [e1,e2]
          obtain ⟨hpos,x,a,hx,ha,hJx⟩ := hs w h0 hw hov (by omega)
          obtain ⟨b,hbb⟩ : ∃ b : Nat,bestC c w = (b : Int) := ⟨(bestC c w).toNat,by omega⟩
          obtain ⟨j,hj⟩ : ∃ j : Nat,s.at_ = (j : Int) := ⟨s.at_.toNat,by omega⟩
          have hx0 := hx
          have ha0 := ha
          rw [hj,Int.toNat_natCast] at hx
          rw [hbb,Int.toNat_natCast] at ha
          have hjl : j < l.length := by
            rcases Nat.lt_or_ge j l.length with h' | h'
            · exact h'
            · rw [List.getElem?_eq_none h'] at hx; cases hx
          have hbl : b < x.1.arms.length := by
            rcases Nat.lt_or_ge b x.1.arms.length with h' | h'
            · exact h'
            · rw [List.getElem?_eq_none h'] at ha; cases ha
          have gp1 : m1.get ip = .own [sv,.int .i64 (j : Int),.map (some s.im),watP (some w1),.int .i64 s.left,.int .i64 0,.int .i64 s.st,slV s.ot s.tr.length 1] 121 := by rw [← hj]; exact hP1.g
          rw [hbb]
          simp -implicitDefEqProofs (disch := first | assumption | (simp only [wnA]; done) | (simp only [wnA]; omega) | omega) [rc58_0,wkA,rtZ,sbZ,dC,ev,fiZ,pkZ,putAt,bnd,slD,gZ0,gZ1,dR_sl,Mem.cell,Mem.row,wmA,gp1]
          rw [SK_bsl (cs := [.int .i64 (b : Int)]) (by simp [wkA,rtZ,sbZ,dC,ev,fiZ,pkZ,putAt,bnd,slD,gZ0,gZ1,dR_sl]) (by simp)]
          obtain ⟨M2,hM2⟩ : ∃ M2,m1.push (.own [.int .i64 (b : Int)] 3) = M2 := ⟨_,rfl⟩
          have o2 : Old m1 M2 := by subst hM2; exact (Old.refl m1).push _
          have g2 : M2.get m1.next = .own [.int .i64 (b : Int)] 3 := by subst hM2; rw [Mem.push_same]
          have hP2 := hP1.old o2
          simp -implicitDefEqProofs (disch := first | assumption | (simp only [wnA]; done) | (simp only [wnA]; omega) | omega) [wkA,rtZ,sbZ,dC,ev,fiZ,pkZ,putAt,bnd,slD,gZ0,gZ1,dR_sl,Mem.cell,Mem.row,wmA,hM2]
          clear hM2
          refine SK_ap (ob := s.ot) (n := s.tr.length) (k := 1) (cs := s.tr.map (.int .i64)) (ys := [.int .i64 (b : Int)]) hP2.ot (by simp [wkA,rtZ,sbZ,dC,ev,fiZ,pkZ,putAt,bnd,slD,gZ0,gZ1,dR_sl]) (by simp -implicitDefEqProofs (disch := first | assumption | (simp only [wnA]; done) | (simp only [wnA]; omega) | omega) [wkA,rtZ,sbZ,dC,ev,fiZ,pkZ,putAt,bnd,slD,gZ0,gZ1,dR_sl,elemsV,Mem.cell,Mem.row,wmA,g2]) (by simp [wkA,rtZ,sbZ,dC,ev,fiZ,pkZ,putAt,bnd,slD,gZ0,gZ1,dR_sl]) (by omega) rfl (by omega) (by simp only [maxLen]; omega) rfl ?_
          obtain ⟨M3,hM3⟩ : ∃ M,(M2.kill s.ot).push (.own (s.tr.map (.int .i64) ++ [.int .i64 (b : Int)]) 3) = M := ⟨_,rfl⟩
          obtain ⟨M4,hM4⟩ : ∃ M,M3.set ip (.own (plC sv { s with wat := some w1,ot := some M2.next,tr := s.tr ++ [(b : Int)] }) 121) = M := ⟨_,rfl⟩
          have hP4 := hP2.setT (b : Int) hM3 hM4
          have hip2 := hP2.lt ip hP2.ipo
          have hip1 := hP1.lt ip hP1.ipo
          have hoti : s.ot ≠ some ip := fun e => hnd.1.2.1 (by simp [e])
          have g3 : M3.get ip = .own (plC sv { s with wat := some w1 }) 121 := by
            subst hM3
            rw [Mem.push_old _ _ (by rw [Mem.kill_nxt]; exact hip2),Mem.kill_other _ hoti]
            exact hP2.g
          have k4 : Keeps (fun i => i ∉ ownP ip s) M2 M4 := by
            subst hM4 hM3
            refine ⟨by simp [Mem.kill_nxt],fun i hi hn => ?_⟩
            rw [Mem.set_other _ _ (fun e => hn (by simp [ownP,e])),Mem.push_old _ _ (by rw [Mem.kill_nxt]; exact hi),Mem.kill_other _ (fun e => hn (by simp [ownP,e]))]
          rw [hM3]
          simp -implicitDefEqProofs (disch := first | assumption | (simp only [wnA]; done) | (simp only [wnA]; omega) | omega) [wkA,rtZ,sbZ,dC,ev,fiZ,pkZ,putAt,bnd,slD,gZ0,gZ1,dR_sl,Mem.cell,Mem.row,wmA]
          refine SK_stm (i := ip) (o := 7) (vs := [slV (some M2.next) (s.tr.length + 1) 1]) (cs := plC sv { s with wat := some w1 }) (e := 121) (M := M4) (by simp [wkA,rtZ,sbZ,dC,ev,fiZ,pkZ,putAt,bnd,slD,gZ0,gZ1,dR_sl]) g3 (by simp [wkA,rtZ,sbZ,dC,ev,fiZ,pkZ,putAt,bnd,slD,gZ0,gZ1,dR_sl]) (by simp [plC]) rfl rfl (by rw [← hM4]; simp [plC,putAt]) ?_
          clear hM4 hM3
          obtain ⟨M5,hM5⟩ : ∃ M,M4.set ip (.own (plC sv { s with wat := none,ot := some M2.next,tr := s.tr ++ [(b : Int)] }) 121) = M := ⟨_,rfl⟩
          have hP5 := hP4.dropW hM5
          have k5 : Keeps (fun i => i ≠ ip) M4 M5 := by subst hM5; exact (Keeps.refl _ _).set (fun _ hn => hn rfl) _
          simp -implicitDefEqProofs (disch := first | assumption | (simp only [wnA]; done) | (simp only [wnA]; omega) | omega) [wkA,rtZ,sbZ,dC,ev,fiZ,pkZ,putAt,bnd,slD,gZ0,gZ1,dR_sl,Mem.cell,Mem.row,wmA]
          refine SK_stm (i := ip) (o := 3) (vs := [.pointer none]) (cs := plC sv { s with wat := some w1,ot := some M2.next,tr := s.tr ++ [(b : Int)] }) (e := 121) (M := M5) (by simp [wkA,rtZ,sbZ,dC,ev,fiZ,pkZ,putAt,bnd,slD,gZ0,gZ1,dR_sl]) hP4.g (by simp [wkA,rtZ,sbZ,dC,ev,fiZ,pkZ,putAt,bnd,slD,gZ0,gZ1,dR_sl]) (by simp [plC]) rfl rfl hM5 ?_
          clear hM5
          have g5 : M5.get ip = .own [sv,.int .i64 (j : Int),.map (some s.im),.pointer none,.int .i64 s.left,.int .i64 0,.int .i64 s.st,slV (some M2.next) (s.tr ++ [(b : Int)]).length 1] 121 := by rw [← hj]; exact hP5.g
          obtain ⟨bi,bo,L,hvv,hL,hLl,hLt,hLc⟩ := hP5.ds.sl.sl.at hjl
          have hc3 := hLc 3 (by omega)
          rw [flat_at' vC_len l hx (by omega)] at hc3
          have hc3 : L[bo + j * 7 + 3]? = some x.2 := hc3
          have hsx : sidx 7 sv (.int .i64 (j : Int)) = some (.pointer (some ⟨bi,bo + j * 7,none⟩)) := by rw [hvv]; exact sidx_at hjl
          have hxm : x ∈ l := List.mem_of_getElem? hx
          obtain ⟨b2,o3,L2,hv2,hL2,hLl2,-,hLc2⟩ := (hP5.ds.ar x hxm).sl.at hbl
          have hc1 := hLc2 1 (by omega)
          rw [flat_at' arm_len2 x.1.arms ha (by omega)] at hc1
          have hc1 : L2[o3 + b * 2 + 1]? = some (.string ⟨⟨a.to⟩⟩) := hc1
          have hs2 : sidx 2 x.2 (.int .i64 (b : Int)) = some (.pointer (some ⟨b2,o3 + b * 2,none⟩)) := by rw [hv2]; exact sidx_at hbl
          simp -implicitDefEqProofs (disch := first | assumption | (simp only [wnA]; done) | (simp only [wnA]; omega) | omega) [wkA,rtZ,sbZ,dC,ev,fiZ,pkZ,putAt,bnd,slD,gZ0,gZ1,dR_sl,Mem.cell,Mem.row,wmA,g5,hsx,hL,hc3,getL hc3,hs2,hL2,hc1,getL hc1]
          refine c_jump hP5 (by have := hS.len; omega) fun M6 k6 hP6 u => ?_
          simp -implicitDefEqProofs (disch := first | assumption | (simp only [wnA]; done) | (simp only [wnA]; omega) | omega) [wkA,rtZ,sbZ,dC,ev,fiZ,pkZ,putAt,bnd,slD,gZ0,gZ1,dR_sl,Mem.cell,Mem.row,wmA]
          rw [hbb] at hJx
          have k02 : Keeps (fun i => i ∉ ownP ip s) m M2 := kF.trans o2.keeps
          have k06 : Keeps (fun i => i ∉ ownP ip s) m M6 := (k02.trans k4).trans ((k5.trans k6).mono fun i _ hi e => hi (by rw [e]; simp [ownP]))
          have hsub : ∀ i ∈ ownP ip { s with wat := none,ot := some M2.next,tr := s.tr ++ [(b : Int)],at_ := findN a.to l 0 },i ∈ ownP ip s ∨ m.next ≤ i := fun i hi => by
            simp only [ownP,List.mem_cons,List.mem_append,Option.toList_some,List.not_mem_nil,or_false] at hi
            rcases hi with hi | hi | hi
            · left; simp [ownP,hi]
            · left; simp [ownP,hi]
            · right; have := k02.1; omega
          refine c_run hP6 hS hJ (hJx _) hV fun M7 s7 out ob hR hP7 k7 so hob how => ?_
          simp -implicitDefEqProofs (disch := first | assumption | (simp only [wnA]; done) | (simp only [wnA]; omega) | omega) [wkA,rtZ,sbZ,dC,ev,fiZ,pkZ,putAt,bnd,slD,gZ0,gZ1,dR_sl,Mem.cell,Mem.row,wmA]
          refine hq M7 s7 out ob (.go w x a M2.next s7 out h0 hw hov (by omega) hpos hx0 ha0 (by rw [hbb]; exact hR)) hP7 ⟨Nat.le_trans k06.1 k7.1,fun i hi hn => ?_⟩ so (fun i hi => Nat.le_trans k06.1 (hob i hi)) fun i hi => ?_
          · rw [k7.2 i (Nat.lt_of_lt_of_le hi k06.1) (fun hm => by rcases hsub i hm with h1 | h1; exact hn h1; omega)]
            exact k06.2 i hi hn
          · rcases how i hi with h1 | h1
            · exact hsub i h1
            · right; have := k06.1; omega
      · simp -implicitDefEqProofs (disch := first | assumption | (simp only [wnA]; done) | (simp only [wnA]; omega) | omega) [wkA,rtZ,sbZ,dC,ev,fiZ,pkZ,putAt,bnd,slD,gZ0,gZ1,dR_sl,Mem.cell,Mem.row,wmA]
        exact nil s m (.over w h0 hw hov) h (Keeps.refl _ _) fun i hi => .inl hi
  · simp -implicitDefEqProofs (disch := first | assumption | (simp only [wnA]; done) | (simp only [wnA]; omega) | omega) [rc58,ro58,wkA,rtZ,sbZ,dC,ev,fiZ,pkZ,putAt,bnd,slD,gZ0,gZ1,dR_sl,Mem.cell,Mem.row,wmA,g,bneT h0]
    exact nil s m (.off (.inl h0)) h (Keeps.refl _ _) fun i hi => .inl hi
def strV (s : List UInt8) : Value := .string ⟨⟨s⟩⟩
structure T2 (base m : Mem) (oa ob : Option Nat) (a b : List (List UInt8)) : Prop where
  o : Old base m
  sa : SlO m 9 1 oa (a.map strV) a.length
  sb : SlO m 9 1 ob (b.map strV) b.length
  ha : ∀ i,oa = some i → base.next ≤ i
  hb : ∀ i,ob = some i → base.next ≤ i
  d : ∀ i,oa = some i → ob ≠ some i
theorem T2.old {base m M : Mem} {oa ob : Option Nat} {a b : List (List UInt8)} (h : T2 base m oa ob a b) (o : Old m M) : T2 base M oa ob a b :=
  ⟨h.o.trans o,h.sa.keep o.1 fun i hi => o.2 i (by subst hi; exact h.sa.lt),h.sb.keep o.1 fun i hi => o.2 i (by subst hi; exact h.sb.lt),h.ha,h.hb,h.d⟩
theorem T2.appA {base m : Mem} {oa ob : Option Nat} {a b : List (List UInt8)} (h : T2 base m oa ob a b) (x : List UInt8) : T2 base ((m.kill oa).push (.own (a.map strV ++ [strV x]) 9)) (some m.next) ob (a ++ [x]) b := by
  refine ⟨(h.o.kill h.ha).push _,?_,(h.sb.kill fun i hi e => h.d i e hi).push _,fun i hi => by cases hi; exact h.o.1,h.hb,fun i hi e => ?_⟩
  · have e : (a ++ [x]).map strV = a.map strV ++ [strV x] := by simp
    rw [e,List.length_append]
    exact SlO.new (by simp)
  · cases hi
    subst e
    exact Nat.lt_irrefl _ h.sb.lt
theorem T2.appB {base m : Mem} {oa ob : Option Nat} {a b : List (List UInt8)} (h : T2 base m oa ob a b) (x : List UInt8) : T2 base ((m.kill ob).push (.own (b.map strV ++ [strV x]) 9)) oa (some m.next) a (b ++ [x]) := by
  refine ⟨(h.o.kill h.hb).push _,(h.sa.kill fun i hi e => h.d i hi e).push _,?_,h.ha,fun i hi => by cases hi; exact h.o.1,fun i hi e => ?_⟩
  · have e : (b ++ [x]).map strV = b.map strV ++ [strV x] := by simp
    rw [e,List.length_append]
    exact SlO.new (by simp)
  · cases e
    subst hi
    exact Nat.lt_irrefl _ h.sa.lt
theorem w_tos {w0 : World} {Q : AQ} {fr : Fr} {m : Mem} {v : Value} {l : List DV} {ob : Option Nat} {ts0 : List (List UInt8)} (hv : DsV m v l) (hl : l.length ≤ 1000000) (hs : SlO m 9 1 ob (ts0.map strV) ts0.length) (htl : ts0.length ≤ 1000000) (f0 : fr 0 = v) (f6 : fr 6 = slV ob ts0.length 1)
    (hq : (∀ t ∈ ts0,0 ≤ findN t l 0) → ∀ fr' m',Old m m' → (∀ i ∈ [0,4,23,24,25],fr' i = fr i) → Q .normal fr' m')
    (he : (∃ t ∈ ts0,findN t l 0 < 0) → ∀ fr' m' u,Old m m' → fr' 2 = fr 4 → fr' 3 = .iface 44 u → Q .ret fr' m') : AbW Tryz.prog w0 rc19_9 Q fr m := by
  simp -implicitDefEqProofs (disch := first | assumption | (simp only [wnA]; done) | (simp only [wnA]; omega) | omega) [rc19_9,wkA,rtZ,sbZ,dC,ev,fiZ,pkZ,putAt,bnd,slD,gZ0,gZ1,dR_sl,Mem.cell,Mem.row,wmA,f6,hs.slen]
  refine LoopW_of (fun k ts m' => ∃ j,j + k = ts0.length ∧ Old m m' ∧ (∀ t ∈ ts0.take j,0 ≤ findN t l 0) ∧ (∀ i ∈ [0,4,23,24,25],ts i = fr i) ∧ ts 93 = slV ob ts0.length 1 ∧ ts 94 = .int .i64 (ts0.length : Nat) ∧ ts 95 = .int .i64 (j : Nat)) ts0.length ?_ ?_
  · refine ⟨0,by omega,Old.refl m,(fun t ht => by simp at ht),fun i hi => ?_,by simp,by simp,by simp⟩
    simp only [List.mem_cons,List.not_mem_nil,or_false] at hi
    rcases hi with rfl | rfl | rfl | rfl | rfl <;> simp
  · rintro k ts m1 K ⟨j,hj,o1,hall,sm,t93,t94,t95⟩ hK
    have e0 := (sm 0 (by simp)).trans f0
    have e4 := sm 4 (by simp)
    simp -implicitDefEqProofs (disch := first | assumption | (simp only [wnA]; done) | (simp only [wnA]; omega) | omega) [rc19_8,wkA,rtZ,sbZ,dC,ev,fiZ,pkZ,putAt,bnd,slD,gZ0,gZ1,dR_sl,Mem.cell,Mem.row,wmA,t94,t95]
    by_cases hjl : j < ts0.length
    · obtain ⟨b,hb⟩ : ∃ b,ob = some b := by
        cases ob with
        | none => have := hs.2; omega
        | some b => exact ⟨b,rfl⟩
      subst hb
      have g1 := (o1.2 b hs.lt).trans hs.2.1
      have hx : (ts0.map strV)[j]? = some (.string ⟨⟨ts0[j]⟩⟩) := by rw [List.getElem?_map,List.getElem?_eq_getElem hjl]; rfl
      have hsl : slV (some b) ts0.length 1 = .slice (some ⟨b,0,none⟩) ts0.length 1 := rfl
      have hsx : sidx 1 (.slice (some ⟨b,0,none⟩) ts0.length 1) (.int .i64 (j : Int)) = some (.pointer (some ⟨b,j,none⟩)) := by simpa using sidx_at (b := b) (o := 0) (n := ts0.length) (c := 1) (j := j) (sz := 1) (k := .i64) hjl
      have hjw : IntKind.i64.wrap ((j : Int) + 1) = ((j + 1 : Nat) : Int) := by rw [w64 (by omega)]; omega
      obtain ⟨L,hL⟩ : ∃ L,ts0.map strV = L := ⟨_,rfl⟩
      rw [hL] at g1 hx
      have htk : ts0.take (j + 1) = ts0.take j ++ [ts0[j]] := List.take_succ_eq_append_getElem hjl
      have htm : ts0[j] ∈ ts0 := List.getElem_mem hjl
      generalize ts0[j] = t at *
      simp -implicitDefEqProofs (disch := first | assumption | (simp only [wnA]; done) | (simp only [wnA]; omega) | omega) [hjl,rc19_7,wkA,rtZ,sbZ,dC,ev,fiZ,pkZ,putAt,bnd,slD,gZ0,gZ1,dR_sl,Mem.cell,Mem.row,wmA,t93,t95,hsl,hsx,g1,hx,getL hx,e0]
      refine c_dFind (hv.old o1) hl fun m2 o2 => ?_
      by_cases hf : findN t l 0 < 0
      · simp -implicitDefEqProofs (disch := first | assumption | (simp only [wnA]; done) | (simp only [wnA]; omega) | omega) [wkA,rtZ,sbZ,dC,ev,fiZ,pkZ,putAt,bnd,slD,gZ0,gZ1,dR_sl,Mem.cell,Mem.row,wmA,ltT hf,e4]
        exact he ⟨t,htm,hf⟩ _ m2 _ (o1.trans o2) (by simp) (by simp; rfl)
      · simp -implicitDefEqProofs (disch := first | assumption | (simp only [wnA]; done) | (simp only [wnA]; omega) | omega) [wkA,rtZ,sbZ,dC,ev,fiZ,pkZ,putAt,bnd,slD,gZ0,gZ1,dR_sl,Mem.cell,Mem.row,wmA,ltF (show (0 : Int) ≤ findN t l 0 by omega),t95,hjw]
        exact hK (k - 1) _ _ (by omega) ⟨j + 1,by omega,o1.trans o2,fun t' ht' => by
          rw [htk] at ht'
          rcases List.mem_append.1 ht' with h1 | h1
          · exact hall t' h1
          · rw [List.mem_singleton] at h1; subst h1; omega,fun i hi => by
          have := sm i hi
          simp only [List.mem_cons,List.not_mem_nil,or_false] at hi
          rcases hi with rfl | rfl | rfl | rfl | rfl <;> simp [this,e0],by simp [t93],by simp [t94],by simp⟩
    · have hjj : j = ts0.length := by omega
      subst hjj
      rw [List.take_length] at hall
      simp -implicitDefEqProofs (disch := first | assumption | (simp only [wnA]; done) | (simp only [wnA]; omega) | omega) [hjl,wkA,rtZ,sbZ,dC,ev,fiZ,pkZ,putAt,bnd,slD,gZ0,gZ1,dR_sl,Mem.cell,Mem.row,wmA]
      exact hq hall _ m1 o1 fun i hi => by
        have := sm i hi
        simp only [List.mem_cons,List.not_mem_nil,or_false] at hi
        rcases hi with rfl | rfl | rfl | rfl | rfl <;> simp [this]
theorem w_pto {w0 : World} {Q : AQ} {fr : Fr} {base m : Mem} {av : Value} {arms : List Arm} {oa : Option Nat} {t0 : List (List UInt8)} (ha : SlR m 2 av (arms.flatMap Arm.cells) arms.length) (hb : ∀ b,blk av = some b → b < m.next) (hl : arms.length ≤ 1000) (h : T2 base m oa none t0 []) (ht : t0.length ≤ 1000)
    (f6 : fr 6 = slV oa t0.length 1) (f7 : fr 7 = .slice none 0 0) (f65 : fr 65 = av) (f66 : fr 66 = .int .i64 (arms.length : Nat)) (f67 : fr 67 = .int .i64 0)
    (hq : ∀ fr' m' oa' ob',Old base m' → T2 base m' oa' ob' (t0 ++ arms.map Arm.to) (arms.map Arm.pat) → fr' 6 = slV oa' (t0 ++ arms.map Arm.to).length 1 → fr' 7 = slV ob' arms.length 1 → (∀ i ∈ [0,4,5,23,24,25],fr' i = fr i) → Q .normal fr' m') (hav : ∀ b,blk av = some b → b < base.next) :
    LoopW (AbW Tryz.prog w0 rc19_5) (inBlockA 2 Q) fr m := by
  refine LoopW_of (fun k ts m' => ∃ j oa' ob',j + k = arms.length ∧ T2 base m' oa' ob' (t0 ++ (arms.take j).map Arm.to) ((arms.take j).map Arm.pat) ∧ (∀ i ∈ [0,4,5,23,24,25],ts i = fr i) ∧ ts 6 = slV oa' (t0.length + j) 1 ∧ ts 7 = slV ob' j 1 ∧ ts 65 = av ∧ ts 66 = .int .i64 (arms.length : Nat) ∧ ts 67 = .int .i64 (j : Nat)) arms.length ?_ ?_
  · exact ⟨0,oa,none,by omega,by simpa using h,fun _ _ => rfl,by simpa using f6,by rw [f7]; rfl,f65,f66,f67⟩
  · rintro k ts m1 K ⟨j,oa',ob',hj,hT,sm,t6,t7,t65,t66,t67⟩ hK
    simp -implicitDefEqProofs (disch := first | assumption | (simp only [wnA]; done) | (simp only [wnA]; omega) | omega) [rc19_5,wkA,rtZ,sbZ,dC,ev,fiZ,pkZ,putAt,bnd,slD,gZ0,gZ1,dR_sl,Mem.cell,Mem.row,wmA,t66,t67]
    by_cases hjl : j < arms.length
    · have hsr : SlR m1 2 av (arms.flatMap Arm.cells) arms.length := ha.keep fun b hbb => by rw [hT.o.2 b (hav b hbb),h.o.2 b (hav b hbb)]
      obtain ⟨bi,bo,L,hvv,hL,hLl,hLt,-⟩ := hsr.at hjl
      rw [flat_at arm_len2 arms (List.getElem?_eq_getElem hjl)] at hLt
      obtain ⟨a,hx⟩ : ∃ a,arms[j] = a := ⟨_,rfl⟩
      rw [hx] at hLt
      have hLt : (L.drop (bo + j * 2)).take 2 = [.string ⟨⟨a.pat⟩⟩,.string ⟨⟨a.to⟩⟩] := hLt
      rw [hvv] at t65
      have hle : bo + j * 2 + 2 ≤ L.length := by omega
      have hjw : IntKind.i64.wrap ((j : Int) + 1) = ((j + 1 : Nat) : Int) := by rw [w64 (by omega)]; omega
      obtain ⟨M,hM⟩ : ∃ M,(m1.push (.own [.string ⟨#[]⟩,.string ⟨#[]⟩] 105)).set m1.next (.own (putAt [.string ⟨#[]⟩,.string ⟨#[]⟩] 0 [.string ⟨⟨a.pat⟩⟩,.string ⟨⟨a.to⟩⟩]) 105) = M := ⟨_,rfl⟩
      have oM : Old m1 M := by subst hM; exact ((Old.refl m1).push _).set (Nat.le_refl _) _
      have gM : M.get m1.next = .own [.string ⟨⟨a.pat⟩⟩,.string ⟨⟨a.to⟩⟩] 105 := by subst hM; rw [Mem.set_same]; rfl
      have nM : m1.next < M.next := by subst hM; simp
      simp -implicitDefEqProofs (disch := first | assumption | (simp only [wnA]; done) | (simp only [wnA]; omega) | omega) [hjl,rc19_4,wkA,rtZ,sbZ,dC,ev,fiZ,pkZ,putAt,bnd,slD,gZ0,gZ1,dR_sl,Mem.cell,Mem.row,wmA,t65,t67,sidx_at,hL,hLt,hle]
      refine SK_stm (i := m1.next) (o := 0) (vs := [.string ⟨⟨a.pat⟩⟩,.string ⟨⟨a.to⟩⟩]) (cs := [.string ⟨#[]⟩,.string ⟨#[]⟩]) (e := 105) (M := M) (by simp [wkA,rtZ,sbZ,dC,ev,fiZ,pkZ,putAt,bnd,slD,gZ0,gZ1,dR_sl]) (by simp -implicitDefEqProofs (disch := first | assumption | (simp only [wnA]; done) | (simp only [wnA]; omega) | omega) [wkA,rtZ,sbZ,dC,ev,fiZ,pkZ,putAt,bnd,slD,gZ0,gZ1,dR_sl,Mem.cell,Mem.row,wmA]) (by simp [wkA,rtZ,sbZ,dC,ev,fiZ,pkZ,putAt,bnd,slD,gZ0,gZ1,dR_sl]) (by simp) rfl rfl hM ?_
      clear hM
      have hTM := hT.old oM
      have htk : arms.take (j + 1) = arms.take j ++ [a] := by rw [List.take_succ_eq_append_getElem hjl,hx]
      have last : ∀ (fr' : Fr) (M' : Mem) (oa2 ob2 : Option Nat),T2 base M' oa2 ob2 ((t0 ++ (arms.take j).map Arm.to) ++ [a.to]) ((arms.take j).map Arm.pat ++ [a.pat]) → (∀ i ∈ [0,4,5,23,24,25],fr' i = ts i) → fr' 6 = slV oa2 (t0.length + (j + 1)) 1 → fr' 7 = slV ob2 (j + 1) 1 → fr' 65 = ts 65 → fr' 66 = ts 66 → fr' 67 = .int .i64 ((j + 1 : Nat) : Int) → K fr' M' := fun fr' M' oa2 ob2 h2 es e6 e7 e65 e66 e67 =>
        hK (k - 1) _ _ (by omega) ⟨j + 1,oa2,ob2,by omega,by rw [htk]; simpa using h2,fun i hi => (es i hi).trans (sm i hi),e6,e7,by rw [e65,t65,hvv],by rw [e66,t66],e67⟩
      have la : (t0 ++ (arms.take j).map Arm.to).length = t0.length + j := by simp; omega
      have lb : ((arms.take j).map Arm.pat).length = j := by simp; omega
      obtain ⟨A,hA⟩ : ∃ A,t0 ++ (arms.take j).map Arm.to = A := ⟨_,rfl⟩
      obtain ⟨B,hB⟩ : ∃ B,(arms.take j).map Arm.pat = B := ⟨_,rfl⟩
      rw [hA] at hTM last la
      rw [hB] at hTM last lb
      simp -implicitDefEqProofs (disch := first | assumption | (simp only [wnA]; done) | (simp only [wnA]; omega) | omega) [wkA,rtZ,sbZ,dC,ev,fiZ,pkZ,putAt,bnd,slD,gZ0,gZ1,dR_sl,Mem.cell,Mem.row,wmA]
      refine AbW_sem_of ?_
      simp -implicitDefEqProofs (disch := first | assumption | (simp only [wnA]; done) | (simp only [wnA]; omega) | omega) [wkA,rtZ,sbZ,dC,ev,fiZ,pkZ,putAt,bnd,slD,gZ0,gZ1,dR_sl,Mem.cell,Mem.row,wmA,gM,t6,t7,rc19_2]
      have oldA : ∀ i,oa' = some i → i < m1.next := fun i hi => by subst hi; exact hT.sa.lt
      have oldB : ∀ i,ob' = some i → i < m1.next := fun i hi => by subst hi; exact hT.sb.lt
      constructor
      · rw [SK_bsl (cs := [.string ⟨⟨a.to⟩⟩]) (by simp [wkA,rtZ,sbZ,dC,ev,fiZ,pkZ,putAt,bnd,slD,gZ0,gZ1,dR_sl]) (by simp)]
        obtain ⟨P1,hP1⟩ : ∃ X,M.push (.own [.string ⟨⟨a.to⟩⟩] 9) = X := ⟨_,rfl⟩
        have oP1 : Old M P1 := by subst hP1; exact (Old.refl _).push _
        have bP1 : P1.get M.next = .own [.string ⟨⟨a.to⟩⟩] 9 := by subst hP1; rw [Mem.push_same]
        have lP1 : M.next < P1.next := by subst hP1; simp
        have TP1 := hTM.old oP1
        have gP1 := (oP1.2 _ nM).trans gM
        have nP1 : m1.next < P1.next := Nat.lt_of_lt_of_le nM oP1.1
        rw [hP1]
        simp -implicitDefEqProofs (disch := first | assumption | (simp only [wnA]; done) | (simp only [wnA]; omega) | omega) [wkA,rtZ,sbZ,dC,ev,fiZ,pkZ,putAt,bnd,slD,gZ0,gZ1,dR_sl,Mem.cell,Mem.row,wmA,gP1]
        constructor
        · simp -implicitDefEqProofs (disch := first | assumption | (simp only [wnA]; done) | (simp only [wnA]; omega) | omega) [rc19_0,wkA,rtZ,sbZ,dC,ev,fiZ,pkZ,putAt,bnd,slD,gZ0,gZ1,dR_sl,Mem.cell,Mem.row,wmA,gP1]
          refine SK_ap (ob := oa') (n := (t0.length + j)) (k := 1) (cs := A.map strV) (ys := [strV a.to]) (by rw [← la]; exact TP1.sa) (by simp [wkA,rtZ,sbZ,dC,ev,fiZ,pkZ,putAt,bnd,slD,gZ0,gZ1,dR_sl]) (by simp -implicitDefEqProofs (disch := first | assumption | (simp only [wnA]; done) | (simp only [wnA]; omega) | omega) [wkA,rtZ,sbZ,dC,ev,fiZ,pkZ,putAt,bnd,slD,gZ0,gZ1,dR_sl,elemsV,Mem.cell,Mem.row,wmA,bP1,strV]) (by simp [wkA,rtZ,sbZ,dC,ev,fiZ,pkZ,putAt,bnd,slD,gZ0,gZ1,dR_sl]) (by omega) rfl (by omega) (by simp only [maxLen]; omega) rfl ?_
          obtain ⟨P2,hP2⟩ : ∃ X,(P1.kill oa').push (.own (A.map strV ++ [strV a.to]) 9) = X := ⟨_,rfl⟩
          have TP2 := TP1.appA a.to
          rw [hP2] at TP2
          have kP2 : ∀ i,i < P1.next → oa' ≠ some i → P2.get i = P1.get i := fun i hi hne => by subst hP2; rw [Mem.push_old _ _ (by rw [Mem.kill_nxt]; exact hi),Mem.kill_other _ hne]
          have zP2 : P1.next < P2.next := by subst hP2; simp [Mem.kill_nxt]
          have gP2 : P2.get m1.next = _ := (kP2 _ nP1 (by intro e; have := oldA _ e; omega)).trans gP1
          have nP2 : m1.next < P2.next := Nat.lt_trans nP1 zP2
          rw [hP2]
          clear hP2
          simp -implicitDefEqProofs (disch := first | assumption | (simp only [wnA]; done) | (simp only [wnA]; omega) | omega) [wkA,rtZ,sbZ,dC,ev,fiZ,pkZ,putAt,bnd,slD,gZ0,gZ1,dR_sl,Mem.cell,Mem.row,wmA,gP2,t67,hjw]
          rw [SK_bsl (cs := [.string ⟨⟨a.pat⟩⟩]) (by simp [wkA,rtZ,sbZ,dC,ev,fiZ,pkZ,putAt,bnd,slD,gZ0,gZ1,dR_sl]) (by simp)]
          obtain ⟨P3,hP3⟩ : ∃ X,P2.push (.own [.string ⟨⟨a.pat⟩⟩] 9) = X := ⟨_,rfl⟩
          have oP3 : Old P2 P3 := by subst hP3; exact (Old.refl _).push _
          have bP3 : P3.get P2.next = .own [.string ⟨⟨a.pat⟩⟩] 9 := by subst hP3; rw [Mem.push_same]
          have lP3 : P2.next < P3.next := by subst hP3; simp
          have TP3 := TP2.old oP3
          have gP3 := (oP3.2 _ nP2).trans gP2
          have nP3 : m1.next < P3.next := Nat.lt_of_lt_of_le nP2 oP3.1
          rw [hP3]
          simp -implicitDefEqProofs (disch := first | assumption | (simp only [wnA]; done) | (simp only [wnA]; omega) | omega) [wkA,rtZ,sbZ,dC,ev,fiZ,pkZ,putAt,bnd,slD,gZ0,gZ1,dR_sl,Mem.cell,Mem.row,wmA,gP3]
          refine SK_ap (ob := ob') (n := j) (k := 1) (cs := B.map strV) (ys := [strV a.pat]) (by rw [← lb]; exact TP3.sb) (by simp [wkA,rtZ,sbZ,dC,ev,fiZ,pkZ,putAt,bnd,slD,gZ0,gZ1,dR_sl]) (by simp -implicitDefEqProofs (disch := first | assumption | (simp only [wnA]; done) | (simp only [wnA]; omega) | omega) [wkA,rtZ,sbZ,dC,ev,fiZ,pkZ,putAt,bnd,slD,gZ0,gZ1,dR_sl,elemsV,Mem.cell,Mem.row,wmA,bP3,strV]) (by simp [wkA,rtZ,sbZ,dC,ev,fiZ,pkZ,putAt,bnd,slD,gZ0,gZ1,dR_sl]) (by omega) rfl (by omega) (by simp only [maxLen]; omega) rfl ?_
          obtain ⟨P4,hP4⟩ : ∃ X,(P3.kill ob').push (.own (B.map strV ++ [strV a.pat]) 9) = X := ⟨_,rfl⟩
          have TP4 := TP3.appB a.pat
          rw [hP4] at TP4
          have kP4 : ∀ i,i < P3.next → ob' ≠ some i → P4.get i = P3.get i := fun i hi hne => by subst hP4; rw [Mem.push_old _ _ (by rw [Mem.kill_nxt]; exact hi),Mem.kill_other _ hne]
          have zP4 : P3.next < P4.next := by subst hP4; simp [Mem.kill_nxt]
          have gP4 : P4.get m1.next = _ := (kP4 _ nP3 (by intro e; have := oldB _ e; omega)).trans gP3
          have nP4 : m1.next < P4.next := Nat.lt_trans nP3 zP4
          rw [hP4]
          clear hP4
          simp -implicitDefEqProofs (disch := first | assumption | (simp only [wnA]; done) | (simp only [wnA]; omega) | omega) [wkA,rtZ,sbZ,dC,ev,fiZ,pkZ,putAt,bnd,slD,gZ0,gZ1,dR_sl,Mem.cell,Mem.row,wmA,gP4,t67,hjw]
          refine last _ _ _ _ TP4 (fun i hi => ?_) (by simp [Nat.add_assoc]) (by simp) (by simp) (by simp) (by simp)
          simp only [List.mem_cons,List.not_mem_nil,or_false] at hi
          rcases hi with rfl | rfl | rfl | rfl | rfl | rfl <;> simp
        · simp -implicitDefEqProofs (disch := first | assumption | (simp only [wnA]; done) | (simp only [wnA]; omega) | omega) [rc19_1,wkA,rtZ,sbZ,dC,ev,fiZ,pkZ,putAt,bnd,slD,gZ0,gZ1,dR_sl,Mem.cell,Mem.row,wmA,gP1]
          rw [SK_bsl (cs := [.string ⟨⟨a.pat⟩⟩]) (by simp [wkA,rtZ,sbZ,dC,ev,fiZ,pkZ,putAt,bnd,slD,gZ0,gZ1,dR_sl]) (by simp)]
          obtain ⟨P2,hP2⟩ : ∃ X,P1.push (.own [.string ⟨⟨a.pat⟩⟩] 9) = X := ⟨_,rfl⟩
          have oP2 : Old P1 P2 := by subst hP2; exact (Old.refl _).push _
          have bP2 : P2.get P1.next = .own [.string ⟨⟨a.pat⟩⟩] 9 := by subst hP2; rw [Mem.push_same]
          have lP2 : P1.next < P2.next := by subst hP2; simp
          have TP2 := TP1.old oP2
          have gP2 := (oP2.2 _ nP1).trans gP1
          have nP2 : m1.next < P2.next := Nat.lt_of_lt_of_le nP1 oP2.1
          have ctoP2 := (oP2.2 _ lP1).trans bP1
          have mtoP2 := Nat.lt_of_lt_of_le lP1 oP2.1
          rw [hP2]
          simp -implicitDefEqProofs (disch := first | assumption | (simp only [wnA]; done) | (simp only [wnA]; omega) | omega) [wkA,rtZ,sbZ,dC,ev,fiZ,pkZ,putAt,bnd,slD,gZ0,gZ1,dR_sl,Mem.cell,Mem.row,wmA,gP2]
          refine SK_ap (ob := oa') (n := (t0.length + j)) (k := 1) (cs := A.map strV) (ys := [strV a.to]) (by rw [← la]; exact TP2.sa) (by simp [wkA,rtZ,sbZ,dC,ev,fiZ,pkZ,putAt,bnd,slD,gZ0,gZ1,dR_sl]) (by simp -implicitDefEqProofs (disch := first | assumption | (simp only [wnA]; done) | (simp only [wnA]; omega) | omega) [wkA,rtZ,sbZ,dC,ev,fiZ,pkZ,putAt,bnd,slD,gZ0,gZ1,dR_sl,elemsV,Mem.cell,Mem.row,wmA,ctoP2,strV]) (by simp [wkA,rtZ,sbZ,dC,ev,fiZ,pkZ,putAt,bnd,slD,gZ0,gZ1,dR_sl]) (by omega) rfl (by omega) (by simp only [maxLen]; omega) rfl ?_
          obtain ⟨P3,hP3⟩ : ∃ X,(P2.kill oa').push (.own (A.map strV ++ [strV a.to]) 9) = X := ⟨_,rfl⟩
          have TP3 := TP2.appA a.to
          rw [hP3] at TP3
          have kP3 : ∀ i,i < P2.next → oa' ≠ some i → P3.get i = P2.get i := fun i hi hne => by subst hP3; rw [Mem.push_old _ _ (by rw [Mem.kill_nxt]; exact hi),Mem.kill_other _ hne]
          have zP3 : P2.next < P3.next := by subst hP3; simp [Mem.kill_nxt]
          have gP3 : P3.get m1.next = _ := (kP3 _ nP2 (by intro e; have := oldA _ e; omega)).trans gP2
          have nP3 : m1.next < P3.next := Nat.lt_trans nP2 zP3
          have cpatP3 : P3.get P1.next = _ := (kP3 _ lP2 (by intro e; have := oldA _ e; omega)).trans bP2
          have mpatP3 := Nat.lt_trans lP2 zP3
          rw [hP3]
          clear hP3
          simp -implicitDefEqProofs (disch := first | assumption | (simp only [wnA]; done) | (simp only [wnA]; omega) | omega) [wkA,rtZ,sbZ,dC,ev,fiZ,pkZ,putAt,bnd,slD,gZ0,gZ1,dR_sl,Mem.cell,Mem.row,wmA,gP3,t67,hjw]
          refine SK_ap (ob := ob') (n := j) (k := 1) (cs := B.map strV) (ys := [strV a.pat]) (by rw [← lb]; exact TP3.sb) (by simp [wkA,rtZ,sbZ,dC,ev,fiZ,pkZ,putAt,bnd,slD,gZ0,gZ1,dR_sl]) (by simp -implicitDefEqProofs (disch := first | assumption | (simp only [wnA]; done) | (simp only [wnA]; omega) | omega) [wkA,rtZ,sbZ,dC,ev,fiZ,pkZ,putAt,bnd,slD,gZ0,gZ1,dR_sl,elemsV,Mem.cell,Mem.row,wmA,cpatP3,strV]) (by simp [wkA,rtZ,sbZ,dC,ev,fiZ,pkZ,putAt,bnd,slD,gZ0,gZ1,dR_sl]) (by omega) rfl (by omega) (by simp only [maxLen]; omega) rfl ?_
          obtain ⟨P4,hP4⟩ : ∃ X,(P3.kill ob').push (.own (B.map strV ++ [strV a.pat]) 9) = X := ⟨_,rfl⟩
          have TP4 := TP3.appB a.pat
          rw [hP4] at TP4
          have kP4 : ∀ i,i < P3.next → ob' ≠ some i → P4.get i = P3.get i := fun i hi hne => by subst hP4; rw [Mem.push_old _ _ (by rw [Mem.kill_nxt]; exact hi),Mem.kill_other _ hne]
          have zP4 : P3.next < P4.next := by subst hP4; simp [Mem.kill_nxt]
          have gP4 : P4.get m1.next = _ := (kP4 _ nP3 (by intro e; have := oldB _ e; omega)).trans gP3
          have nP4 : m1.next < P4.next := Nat.lt_trans nP3 zP4
          rw [hP4]
          clear hP4
          simp -implicitDefEqProofs (disch := first | assumption | (simp only [wnA]; done) | (simp only [wnA]; omega) | omega) [wkA,rtZ,sbZ,dC,ev,fiZ,pkZ,putAt,bnd,slD,gZ0,gZ1,dR_sl,Mem.cell,Mem.row,wmA,gP4,t67,hjw]
          refine last _ _ _ _ TP4 (fun i hi => ?_) (by simp [Nat.add_assoc]) (by simp) (by simp) (by simp) (by simp)
          simp only [List.mem_cons,List.not_mem_nil,or_false] at hi
          rcases hi with rfl | rfl | rfl | rfl | rfl | rfl <;> simp
      · simp -implicitDefEqProofs (disch := first | assumption | (simp only [wnA]; done) | (simp only [wnA]; omega) | omega) [rc19_3,wkA,rtZ,sbZ,dC,ev,fiZ,pkZ,putAt,bnd,slD,gZ0,gZ1,dR_sl,Mem.cell,Mem.row,wmA,gM]
        rw [SK_bsl (cs := [.string ⟨⟨a.pat⟩⟩]) (by simp [wkA,rtZ,sbZ,dC,ev,fiZ,pkZ,putAt,bnd,slD,gZ0,gZ1,dR_sl]) (by simp)]
        obtain ⟨R1,hR1⟩ : ∃ X,M.push (.own [.string ⟨⟨a.pat⟩⟩] 9) = X := ⟨_,rfl⟩
        have oR1 : Old M R1 := by subst hR1; exact (Old.refl _).push _
        have bR1 : R1.get M.next = .own [.string ⟨⟨a.pat⟩⟩] 9 := by subst hR1; rw [Mem.push_same]
        have lR1 : M.next < R1.next := by subst hR1; simp
        have TR1 := hTM.old oR1
        have gR1 := (oR1.2 _ nM).trans gM
        have nR1 : m1.next < R1.next := Nat.lt_of_lt_of_le nM oR1.1
        rw [hR1]
        simp -implicitDefEqProofs (disch := first | assumption | (simp only [wnA]; done) | (simp only [wnA]; omega) | omega) [wkA,rtZ,sbZ,dC,ev,fiZ,pkZ,putAt,bnd,slD,gZ0,gZ1,dR_sl,Mem.cell,Mem.row,wmA,gR1]
        rw [SK_bsl (cs := [.string ⟨⟨a.to⟩⟩]) (by simp [wkA,rtZ,sbZ,dC,ev,fiZ,pkZ,putAt,bnd,slD,gZ0,gZ1,dR_sl]) (by simp)]
        obtain ⟨R2,hR2⟩ : ∃ X,R1.push (.own [.string ⟨⟨a.to⟩⟩] 9) = X := ⟨_,rfl⟩
        have oR2 : Old R1 R2 := by subst hR2; exact (Old.refl _).push _
        have bR2 : R2.get R1.next = .own [.string ⟨⟨a.to⟩⟩] 9 := by subst hR2; rw [Mem.push_same]
        have lR2 : R1.next < R2.next := by subst hR2; simp
        have TR2 := TR1.old oR2
        have gR2 := (oR2.2 _ nR1).trans gR1
        have nR2 : m1.next < R2.next := Nat.lt_of_lt_of_le nR1 oR2.1
        have cpatR2 := (oR2.2 _ lR1).trans bR1
        have mpatR2 := Nat.lt_of_lt_of_le lR1 oR2.1
        rw [hR2]
        simp -implicitDefEqProofs (disch := first | assumption | (simp only [wnA]; done) | (simp only [wnA]; omega) | omega) [wkA,rtZ,sbZ,dC,ev,fiZ,pkZ,putAt,bnd,slD,gZ0,gZ1,dR_sl,Mem.cell,Mem.row,wmA,gR2]
        refine SK_ap (ob := oa') (n := (t0.length + j)) (k := 1) (cs := A.map strV) (ys := [strV a.to]) (by rw [← la]; exact TR2.sa) (by simp [wkA,rtZ,sbZ,dC,ev,fiZ,pkZ,putAt,bnd,slD,gZ0,gZ1,dR_sl]) (by simp -implicitDefEqProofs (disch := first | assumption | (simp only [wnA]; done) | (simp only [wnA]; omega) | omega) [wkA,rtZ,sbZ,dC,ev,fiZ,pkZ,putAt,bnd,slD,gZ0,gZ1,dR_sl,elemsV,Mem.cell,Mem.row,wmA,bR2,strV]) (by simp [wkA,rtZ,sbZ,dC,ev,fiZ,pkZ,putAt,bnd,slD,gZ0,gZ1,dR_sl]) (by omega) rfl (by omega) (by simp only [maxLen]; omega) rfl ?_
        obtain ⟨R3,hR3⟩ : ∃ X,(R2.kill oa').push (.own (A.map strV ++ [strV a.to]) 9) = X := ⟨_,rfl⟩
        have TR3 := TR2.appA a.to
        rw [hR3] at TR3
        have kR3 : ∀ i,i < R2.next → oa' ≠ some i → R3.get i = R2.get i := fun i hi hne => by subst hR3; rw [Mem.push_old _ _ (by rw [Mem.kill_nxt]; exact hi),Mem.kill_other _ hne]
        have zR3 : R2.next < R3.next := by subst hR3; simp [Mem.kill_nxt]
        have gR3 : R3.get m1.next = _ := (kR3 _ nR2 (by intro e; have := oldA _ e; omega)).trans gR2
        have nR3 : m1.next < R3.next := Nat.lt_trans nR2 zR3
        have cpatR3 : R3.get M.next = _ := (kR3 _ mpatR2 (by intro e; have := oldA _ e; omega)).trans cpatR2
        have mpatR3 := Nat.lt_trans mpatR2 zR3
        rw [hR3]
        clear hR3
        simp -implicitDefEqProofs (disch := first | assumption | (simp only [wnA]; done) | (simp only [wnA]; omega) | omega) [wkA,rtZ,sbZ,dC,ev,fiZ,pkZ,putAt,bnd,slD,gZ0,gZ1,dR_sl,Mem.cell,Mem.row,wmA,gR3,t67,hjw]
        refine SK_ap (ob := ob') (n := j) (k := 1) (cs := B.map strV) (ys := [strV a.pat]) (by rw [← lb]; exact TR3.sb) (by simp [wkA,rtZ,sbZ,dC,ev,fiZ,pkZ,putAt,bnd,slD,gZ0,gZ1,dR_sl]) (by simp -implicitDefEqProofs (disch := first | assumption | (simp only [wnA]; done) | (simp only [wnA]; omega) | omega) [wkA,rtZ,sbZ,dC,ev,fiZ,pkZ,putAt,bnd,slD,gZ0,gZ1,dR_sl,elemsV,Mem.cell,Mem.row,wmA,cpatR3,strV]) (by simp [wkA,rtZ,sbZ,dC,ev,fiZ,pkZ,putAt,bnd,slD,gZ0,gZ1,dR_sl]) (by omega) rfl (by omega) (by simp only [maxLen]; omega) rfl ?_
        obtain ⟨R4,hR4⟩ : ∃ X,(R3.kill ob').push (.own (B.map strV ++ [strV a.pat]) 9) = X := ⟨_,rfl⟩
        have TR4 := TR3.appB a.pat
        rw [hR4] at TR4
        have kR4 : ∀ i,i < R3.next → ob' ≠ some i → R4.get i = R3.get i := fun i hi hne => by subst hR4; rw [Mem.push_old _ _ (by rw [Mem.kill_nxt]; exact hi),Mem.kill_other _ hne]
        have zR4 : R3.next < R4.next := by subst hR4; simp [Mem.kill_nxt]
        have gR4 : R4.get m1.next = _ := (kR4 _ nR3 (by intro e; have := oldB _ e; omega)).trans gR3
        have nR4 : m1.next < R4.next := Nat.lt_trans nR3 zR4
        rw [hR4]
        clear hR4
        simp -implicitDefEqProofs (disch := first | assumption | (simp only [wnA]; done) | (simp only [wnA]; omega) | omega) [wkA,rtZ,sbZ,dC,ev,fiZ,pkZ,putAt,bnd,slD,gZ0,gZ1,dR_sl,Mem.cell,Mem.row,wmA,gR4,t67,hjw]
        refine last _ _ _ _ TR4 (fun i hi => ?_) (by simp [Nat.add_assoc]) (by simp) (by simp) (by simp) (by simp)
        simp only [List.mem_cons,List.not_mem_nil,or_false] at hi
        rcases hi with rfl | rfl | rfl | rfl | rfl | rfl <;> simp
    · have hjj : j = arms.length := by omega
      subst hjj
      rw [List.take_length] at hT
      simp -implicitDefEqProofs (disch := first | assumption | (simp only [wnA]; done) | (simp only [wnA]; omega) | omega) [hjl,wkA,rtZ,sbZ,dC,ev,fiZ,pkZ,putAt,bnd,slD,gZ0,gZ1,dR_sl,Mem.cell,Mem.row,wmA]
      exact hq _ m1 oa' ob' hT.o hT (by simp [t6]) (by simp [t7]) fun i hi => by
        have := sm i hi
        simp only [List.mem_cons,List.not_mem_nil,or_false] at hi
        rcases hi with rfl | rfl | rfl | rfl | rfl | rfl <;> simp [this]
def chk1 (l : List DV) (k : Nat) (x : DS) : Prop := (x.lb ≠ [] → findN x.lb l 0 = k) ∧ ((x.kd = 1 ∨ x.kd = 2 ∨ x.kd = 3) → 0 ≤ findN x.to l 0) ∧ (x.kd = 1 → ∀ a ∈ x.arms,0 ≤ findN a.to l 0)
def chkOk (l : List DV) : Prop := (0 < l.length ∧ l.length ≤ 64) ∧ ∀ k x,l[k]? = some x → chk1 l k x.1
def tosOf (x : DS) : List (List UInt8) := if x.kd = 1 then x.to :: x.arms.map Arm.to else if x.kd = 2 ∨ x.kd = 3 then [x.to] else []
theorem chk1_of {l : List DV} {k : Nat} {x : DS} (h1 : x.lb ≠ [] → findN x.lb l 0 = k) (h2 : ∀ t ∈ tosOf x,0 ≤ findN t l 0) : chk1 l k x := by
  refine ⟨h1,fun h => h2 _ ?_,fun h a ha => h2 _ ?_⟩
  · unfold tosOf
    rcases h with h | h | h
    · rw [if_pos h]; simp
    · rw [if_neg (by omega),if_pos (.inl h)]; simp
    · rw [if_neg (by omega),if_pos (.inr h)]; simp
  · unfold tosOf
    rw [if_pos h]
    exact List.mem_cons_of_mem _ (List.mem_map.2 ⟨a,ha,rfl⟩)
theorem chk1_not {l : List DV} {k : Nat} {x : DS} {t : List UInt8} (ht : t ∈ tosOf x) (h : findN t l 0 < 0) : ¬ chk1 l k x := fun hc => by
  unfold tosOf at ht
  by_cases h1 : x.kd = 1
  · rw [if_pos h1] at ht
    rcases List.mem_cons.1 ht with rfl | ht
    · have := hc.2.1 (.inl h1); omega
    · obtain ⟨a,ha,rfl⟩ := List.mem_map.1 ht
      have := hc.2.2 h1 a ha; omega
  · rw [if_neg h1] at ht
    by_cases h2 : x.kd = 2 ∨ x.kd = 3
    · rw [if_pos h2,List.mem_singleton] at ht
      subst ht
      have := hc.2.1 (.inr h2); omega
    · rw [if_neg h2] at ht; cases ht
theorem T2.nil (m : Mem) : T2 m m none none [] [] := ⟨Old.refl m,⟨rfl,rfl⟩,⟨rfl,rfl⟩,(fun i hi => by cases hi),(fun i hi => by cases hi),fun i hi => by cases hi⟩
theorem w_chk {w0 : World} {Q' : AQ} {fr : Fr} {m : Mem} {v : Value} {l : List DV} {G : List (List UInt8) → Prop} {P : List (List UInt8) → List (Tab × List Bool) → Prop} {i5 : Nat} {x : DV} (hp : Part L0 m) (hv : DsV m v l) (hl : l.length ≤ 1000000) (hA : ArmV m x) (hsz : x.1.arms.length ≤ 1000) (hof : x.1.kd = 1 → OfC w0 (pats x.1) (G (pats x.1)) (P (pats x.1)))
    (gx : m.get i5 = .own (vC x) 101) (n5 : i5 < m.next) (f0 : fr 0 = v) (f5 : fr 5 = .pointer (some ⟨i5,0,none⟩))
    (hq : (∀ t ∈ tosOf x.1,0 ≤ findN t l 0) → ∀ fr' m',Old m m' → (∀ i ∈ [0,23,24,25],fr' i = fr i) → Q' .normal fr' m')
    (he : (∃ t ∈ tosOf x.1,findN t l 0 < 0) ∨ (x.1.kd = 1 ∧ ¬ G (pats x.1)) → ∀ fr' m' t u,Old m m' → fr' 3 = .iface t u → Q' .ret fr' m') : AbW Tryz.prog w0 rc19_11 Q' fr m := by
  have hA0 := hA
  obtain ⟨⟨lb,kd,tx,arms,n,to,pl⟩,av⟩ := x
  have gx : m.get i5 = .own [.string ⟨⟨lb⟩⟩,.int .i64 kd,.string ⟨⟨tx⟩⟩,av,.int .i64 n,.string ⟨⟨to⟩⟩,.int .i64 pl] 101 := gx
  simp only at hsz hof hq he hA
  have app1 : ∀ (fr1 : Fr),True := fun _ => trivial
  obtain ⟨M1,hM1⟩ : ∃ M1,m.push (.own [.string ⟨⟨to⟩⟩] 9) = M1 := ⟨_,rfl⟩
  have o1 : Old m M1 := by subst hM1; exact (Old.refl m).push _
  have g1 : M1.get m.next = .own [.string ⟨⟨to⟩⟩] 9 := by subst hM1; rw [Mem.push_same]
  have hT1 := ((T2.nil m).old o1).appA to
  obtain ⟨M2,hM2⟩ : ∃ M2,(M1.kill none).push (.own (([] : List (List UInt8)).map strV ++ [strV to]) 9) = M2 := ⟨_,rfl⟩
  rw [hM2] at hT1
  have o2 : Old m M2 := hT1.o
  have gx2 := (o2.2 _ n5).trans gx
  have tos1 : ∀ (fr' : Fr),fr' 0 = v → fr' 6 = slV (some M1.next) 1 1 → (∀ i ∈ [0,23,24,25],fr' i = fr i) → tosOf ⟨lb,kd,tx,arms,n,to,pl⟩ = [to] → AbW Tryz.prog w0 rc19_9 Q' fr' M2 := fun fr' e0 e6 es ht =>
    w_tos (ts0 := [to]) (hv.old o2) hl hT1.sa (by simp) e0 e6 (fun hall fr2 m2 oo ee => hq (by rw [ht]; exact hall) fr2 m2 (o2.trans oo) fun i hi => (ee i (by simp only [List.mem_cons,List.not_mem_nil,or_false] at hi ⊢; omega)).trans (es i hi)) (fun hex fr2 m2 u oo _ e3 => he (.inl (by rw [ht]; exact hex)) fr2 m2 _ u (o2.trans oo) e3)
  by_cases h1 : kd = 1
  · subst h1
    have hsla := (hA.old o2).sl.slen
    have hsla' : slen av = some (.int .i64 (arms.length : Nat)) := hsla
    simp -implicitDefEqProofs (disch := first | assumption | (simp only [wnA]; done) | (simp only [wnA]; omega) | omega) [rc19_11,wkA,rtZ,sbZ,dC,ev,fiZ,pkZ,putAt,bnd,slD,gZ0,gZ1,dR_sl,Mem.cell,Mem.row,wmA,f5,gx]
    rw [SK_bsl (cs := [.string ⟨⟨to⟩⟩]) (by simp [wkA,rtZ,sbZ,dC,ev,fiZ,pkZ,putAt,bnd,slD,gZ0,gZ1,dR_sl]) (by simp)]
    rw [hM1]
    simp -implicitDefEqProofs (disch := first | assumption | (simp only [wnA]; done) | (simp only [wnA]; omega) | omega) [wkA,rtZ,sbZ,dC,ev,fiZ,pkZ,putAt,bnd,slD,gZ0,gZ1,dR_sl,Mem.cell,Mem.row,wmA]
    refine SK_ap (ob := none) (n := 0) (k := 1) (cs := ([] : List (List UInt8)).map strV) (ys := [.string ⟨⟨to⟩⟩]) ⟨rfl,rfl⟩ (by simp [wkA,rtZ,sbZ,dC,ev,fiZ,pkZ,putAt,bnd,slD,gZ0,gZ1,dR_sl]; rfl) (by simp -implicitDefEqProofs (disch := first | assumption | (simp only [wnA]; done) | (simp only [wnA]; omega) | omega) [wkA,rtZ,sbZ,dC,ev,fiZ,pkZ,putAt,bnd,slD,gZ0,gZ1,dR_sl,elemsV,Mem.cell,Mem.row,wmA,g1]) (by simp [wkA,rtZ,sbZ,dC,ev,fiZ,pkZ,putAt,bnd,slD,gZ0,gZ1,dR_sl]) (by omega) rfl (by omega) (by simp only [maxLen]; omega) rfl ?_
    have hM2' : (M1.kill none).push (.own (([] : List (List UInt8)).map strV ++ [.string ⟨⟨to⟩⟩]) 9) = M2 := hM2
    rw [hM2']
    simp -implicitDefEqProofs (disch := first | assumption | (simp only [wnA]; done) | (simp only [wnA]; omega) | omega) [rc19_10,wkA,rtZ,sbZ,dC,ev,fiZ,pkZ,putAt,bnd,slD,gZ0,gZ1,dR_sl,Mem.cell,Mem.row,wmA,f5,gx2,hsla']
    refine w_pto (t0 := [to]) (hA.old o2).sl (fun b hb => Nat.lt_of_lt_of_le (hA.bl b hb) o2.1) hsz hT1 (by simp) (by simp) (by simp) (by simp) (by simp) (by simp) ?_ (fun b hb => hA.bl b hb)
    intro fr3 m3 oa ob o3 hT3 e6 e7 es
    simp -implicitDefEqProofs (disch := first | assumption | (simp only [wnA]; done) | (simp only [wnA]; omega) | omega) [rc19_6,wkA,rtZ,sbZ,dC,ev,fiZ,pkZ,putAt,bnd,slD,gZ0,gZ1,dR_sl,Mem.cell,Mem.row,wmA,e7]
    have em : (arms.map Arm.pat).map (fun p => Value.string ⟨⟨p⟩⟩) = (arms.map Arm.pat).map strV := rfl
    have so' : SlO m3 9 1 ob ((arms.map Arm.pat).map fun p => Value.string ⟨⟨p⟩⟩) (arms.map Arm.pat).length := hT3.sb
    have hlp : arms.length = (arms.map Arm.pat).length := by rw [List.length_map]
    rw [hlp]
    have f0' := (es 0 (by simp)).trans (by simp [f0] : _ = v)
    refine hof rfl m3 ob _ (o3.part hp) so' (fun m4 w o4 _ _ _ _ _ _ => ?_) fun hG m4 e o4 hE => ?_
    · simp -implicitDefEqProofs (disch := first | assumption | (simp only [wnA]; done) | (simp only [wnA]; omega) | omega) [wkA,rtZ,sbZ,dC,ev,fiZ,pkZ,putAt,bnd,slD,gZ0,gZ1,dR_sl,Mem.cell,Mem.row,wmA]
      have hTos : tosOf ⟨lb,1,tx,arms,n,to,pl⟩ = to :: arms.map Arm.to := by simp [tosOf]
      refine w_tos (ts0 := to :: arms.map Arm.to) (hv.old (o3.trans o4)) hl (hT3.old o4).sa (by simp; omega) (by simp [f0']) (by simp [e6]) (fun hall fr2 m2 oo ee => hq (by rw [hTos]; exact hall) fr2 m2 ((o3.trans o4).trans oo) fun i hi => ?_) (fun hex fr2 m2 u oo _ e3 => he (.inl (by rw [hTos]; exact hex)) fr2 m2 _ u ((o3.trans o4).trans oo) e3)
      have h1 := ee i (by simp only [List.mem_cons,List.not_mem_nil,or_false] at hi ⊢; omega)
      have h2 := es i (by simp only [List.mem_cons,List.not_mem_nil,or_false] at hi ⊢; omega)
      simp only [List.mem_cons,List.not_mem_nil,or_false] at hi
      rcases hi with rfl | rfl | rfl | rfl <;> (rw [h1]; simp [h2])
    · obtain ⟨t,u,rfl,hnum⟩ := hE
      simp -implicitDefEqProofs (disch := first | assumption | (simp only [wnA]; done) | (simp only [wnA]; omega) | omega) [wkA,rtZ,sbZ,dC,ev,fiZ,pkZ,putAt,bnd,slD,gZ0,gZ1,dR_sl,Mem.cell,Mem.row,wmA]
      refine hnum m4 _ ((o3.trans o4).part hp) fun m5 nn o5 => ?_
      simp -implicitDefEqProofs (disch := first | assumption | (simp only [wnA]; done) | (simp only [wnA]; omega) | omega) [wkA,rtZ,sbZ,dC,ev,fiZ,pkZ,putAt,bnd,slD,gZ0,gZ1,dR_sl,Mem.cell,Mem.row,wmA]
      exact he (.inr ⟨rfl,hG⟩) _ m5 _ _ ((o3.trans o4).trans o5) (by simp; exact ⟨rfl,rfl⟩)
  · by_cases h2 : kd = 2
    · subst h2
      simp -implicitDefEqProofs (disch := first | assumption | (simp only [wnA]; done) | (simp only [wnA]; omega) | omega) [rc19_11,wkA,rtZ,sbZ,dC,ev,fiZ,pkZ,putAt,bnd,slD,gZ0,gZ1,dR_sl,Mem.cell,Mem.row,wmA,f5,gx]
      rw [SK_bsl (cs := [.string ⟨⟨to⟩⟩]) (by simp [wkA,rtZ,sbZ,dC,ev,fiZ,pkZ,putAt,bnd,slD,gZ0,gZ1,dR_sl]) (by simp)]
      rw [hM1]
      simp -implicitDefEqProofs (disch := first | assumption | (simp only [wnA]; done) | (simp only [wnA]; omega) | omega) [wkA,rtZ,sbZ,dC,ev,fiZ,pkZ,putAt,bnd,slD,gZ0,gZ1,dR_sl,Mem.cell,Mem.row,wmA]
      refine SK_ap (ob := none) (n := 0) (k := 1) (cs := ([] : List (List UInt8)).map strV) (ys := [.string ⟨⟨to⟩⟩]) ⟨rfl,rfl⟩ (by simp [wkA,rtZ,sbZ,dC,ev,fiZ,pkZ,putAt,bnd,slD,gZ0,gZ1,dR_sl]; rfl) (by simp -implicitDefEqProofs (disch := first | assumption | (simp only [wnA]; done) | (simp only [wnA]; omega) | omega) [wkA,rtZ,sbZ,dC,ev,fiZ,pkZ,putAt,bnd,slD,gZ0,gZ1,dR_sl,elemsV,Mem.cell,Mem.row,wmA,g1]) (by simp [wkA,rtZ,sbZ,dC,ev,fiZ,pkZ,putAt,bnd,slD,gZ0,gZ1,dR_sl]) (by omega) rfl (by omega) (by simp only [maxLen]; omega) rfl ?_
      have hM2' : (M1.kill none).push (.own (([] : List (List UInt8)).map strV ++ [.string ⟨⟨to⟩⟩]) 9) = M2 := hM2
      rw [hM2']
      simp -implicitDefEqProofs (disch := first | assumption | (simp only [wnA]; done) | (simp only [wnA]; omega) | omega) [rc19_10,wkA,rtZ,sbZ,dC,ev,fiZ,pkZ,putAt,bnd,slD,gZ0,gZ1,dR_sl,Mem.cell,Mem.row,wmA,f5,gx2]
      refine tos1 _ (by simp [f0]) (by simp) (fun i hi => ?_) (by simp [tosOf])
      simp only [List.mem_cons,List.not_mem_nil,or_false] at hi
      rcases hi with rfl | rfl | rfl | rfl <;> simp
    · by_cases h3 : kd = 3
      · subst h3
        simp -implicitDefEqProofs (disch := first | assumption | (simp only [wnA]; done) | (simp only [wnA]; omega) | omega) [rc19_11,wkA,rtZ,sbZ,dC,ev,fiZ,pkZ,putAt,bnd,slD,gZ0,gZ1,dR_sl,Mem.cell,Mem.row,wmA,f5,gx]
        rw [SK_bsl (cs := [.string ⟨⟨to⟩⟩]) (by simp [wkA,rtZ,sbZ,dC,ev,fiZ,pkZ,putAt,bnd,slD,gZ0,gZ1,dR_sl]) (by simp)]
        rw [hM1]
        simp -implicitDefEqProofs (disch := first | assumption | (simp only [wnA]; done) | (simp only [wnA]; omega) | omega) [wkA,rtZ,sbZ,dC,ev,fiZ,pkZ,putAt,bnd,slD,gZ0,gZ1,dR_sl,Mem.cell,Mem.row,wmA]
        refine SK_ap (ob := none) (n := 0) (k := 1) (cs := ([] : List (List UInt8)).map strV) (ys := [.string ⟨⟨to⟩⟩]) ⟨rfl,rfl⟩ (by simp [wkA,rtZ,sbZ,dC,ev,fiZ,pkZ,putAt,bnd,slD,gZ0,gZ1,dR_sl]; rfl) (by simp -implicitDefEqProofs (disch := first | assumption | (simp only [wnA]; done) | (simp only [wnA]; omega) | omega) [wkA,rtZ,sbZ,dC,ev,fiZ,pkZ,putAt,bnd,slD,gZ0,gZ1,dR_sl,elemsV,Mem.cell,Mem.row,wmA,g1]) (by simp [wkA,rtZ,sbZ,dC,ev,fiZ,pkZ,putAt,bnd,slD,gZ0,gZ1,dR_sl]) (by omega) rfl (by omega) (by simp only [maxLen]; omega) rfl ?_
        have hM2' : (M1.kill none).push (.own (([] : List (List UInt8)).map strV ++ [.string ⟨⟨to⟩⟩]) 9) = M2 := hM2
        rw [hM2']
        simp -implicitDefEqProofs (disch := first | assumption | (simp only [wnA]; done) | (simp only [wnA]; omega) | omega) [rc19_10,wkA,rtZ,sbZ,dC,ev,fiZ,pkZ,putAt,bnd,slD,gZ0,gZ1,dR_sl,Mem.cell,Mem.row,wmA,f5,gx2]
        refine tos1 _ (by simp [f0]) (by simp) (fun i hi => ?_) (by simp [tosOf])
        simp only [List.mem_cons,List.not_mem_nil,or_false] at hi
        rcases hi with rfl | rfl | rfl | rfl <;> simp
      · simp -implicitDefEqProofs (disch := first | assumption | (simp only [wnA]; done) | (simp only [wnA]; omega) | omega) [rc19_11,rc19_10,wkA,rtZ,sbZ,dC,ev,fiZ,pkZ,putAt,bnd,slD,gZ0,gZ1,dR_sl,Mem.cell,Mem.row,wmA,f5,gx,beqF h1,beqF h2,beqF h3]
        have hTos : tosOf ⟨lb,kd,tx,arms,n,to,pl⟩ = [] := by simp [tosOf,h1,h2,h3]
        refine w_tos (ob := none) (ts0 := []) hv hl ⟨rfl,rfl⟩ (by simp) (by simp [f0]) (by simp; rfl) (fun hall fr2 m2 oo ee => hq (by rw [hTos]; exact hall) fr2 m2 oo fun i hi => ?_) (fun hex fr2 m2 u oo _ e3 => by obtain ⟨t,ht,-⟩ := hex; cases ht)
        have h1 := ee i (by simp only [List.mem_cons,List.not_mem_nil,or_false] at hi ⊢; omega)
        simp only [List.mem_cons,List.not_mem_nil,or_false] at hi
        rcases hi with rfl | rfl | rfl | rfl <;> (rw [h1]; simp)
theorem c_dCheck {w0 : World} {m : Mem} {v : Value} {l : List DV} {G : List (List UInt8) → Prop} {P : List (List UInt8) → List (Tab × List Bool) → Prop} {Q : Value → Mem → Prop} (hp : Part L0 m) (hv : DsV m v l) (hS : StepsOk w0 G P l)
    (hok : chkOk l → ∀ m',Old m m' → Q (.tuple ⟨[.int .i64 0,.nilIface]⟩) m')
    (herr : ¬ (chkOk l ∧ ∀ x ∈ l,x.1.kd = 1 → G (pats x.1)) → ∀ m' k t u,Old m m' → Q (.tuple ⟨[k,.iface t u]⟩) m') : AbC Tryz.prog w0 19 [v] m Q := by
  refine AbC_fn ok19 (by simp) ?_
  have hsl := hv.sl.slen
  have hll := hS.len
  by_cases hz : l.length = 0
  · have hz' : (l.length : Int) = 0 := by omega
    simp -implicitDefEqProofs (disch := first | assumption | (simp only [wnA]; done) | (simp only [wnA]; omega) | omega) [rc19,ro19,wkA,rtZ,sbZ,dC,ev,fiZ,pkZ,putAt,bnd,slD,gZ0,gZ1,dR_sl,Mem.cell,Mem.row,wmA,hsl,hz]
    exact herr (fun h => by have := h.1.1.1; omega) m _ _ _ (Old.refl m)
  · have hz' : ((l.length : Int) == 0) = false := beqF (by omega)
    by_cases h64 : 64 < l.length
    · have h64' : (64 : Int) < (l.length : Int) := by omega
      simp -implicitDefEqProofs (disch := first | assumption | (simp only [wnA]; done) | (simp only [wnA]; omega) | omega) [rc19,ro19,wkA,rtZ,sbZ,dC,ev,fiZ,pkZ,putAt,bnd,slD,gZ0,gZ1,dR_sl,Mem.cell,Mem.row,wmA,hsl,hz',gtT h64']
      exact herr (fun h => by have := h.1.1.2; omega) m _ _ _ (Old.refl m)
    · simp -implicitDefEqProofs (disch := first | assumption | (simp only [wnA]; done) | (simp only [wnA]; omega) | omega) [rc19,ro19,rc19_15,wkA,rtZ,sbZ,dC,ev,fiZ,pkZ,putAt,bnd,slD,gZ0,gZ1,dR_sl,Mem.cell,Mem.row,wmA,hsl,hz',gtF (show (l.length : Int) ≤ 64 by omega)]
      refine LoopW_of (fun q ts m' => ∃ j,j + q = l.length ∧ Old m m' ∧ (∀ k x,k < j → l[k]? = some x → chk1 l k x.1) ∧ ts 0 = v ∧ ts 23 = v ∧ ts 24 = .int .i64 (l.length : Nat) ∧ ts 25 = .int .i64 (j : Nat)) l.length ?_ ?_
      · exact ⟨0,by omega,Old.refl m,(fun k x hk => by omega),by simp [frA_at],by simp,by simp,by simp⟩
      · rintro q ts m1 K ⟨j,hj,o1,hall,t0,t23,t24,t25⟩ hK
        simp -implicitDefEqProofs (disch := first | assumption | (simp only [wnA]; done) | (simp only [wnA]; omega) | omega) [rc19_13,wkA,rtZ,sbZ,dC,ev,fiZ,pkZ,putAt,bnd,slD,gZ0,gZ1,dR_sl,Mem.cell,Mem.row,wmA,t24,t25]
        by_cases hjl : j < l.length
        · have hv1 := hv.old o1
          obtain ⟨bi,bo,L,hvv,hL,hLl,hLt,-⟩ := hv1.sl.at hjl
          rw [flat_at vC_len l (List.getElem?_eq_getElem hjl)] at hLt
          obtain ⟨x,hx⟩ : ∃ x,l[j] = x := ⟨_,rfl⟩
          have hxj : l[j]? = some x := by rw [List.getElem?_eq_getElem hjl,hx]
          have hxm : x ∈ l := by rw [← hx]; exact List.getElem_mem hjl
          have hA1 := hv1.ar x hxm
          have hone := hA1.sl.one
          have hsz := hS.sz x hxm
          have hof := hS.of x hxm
          rw [hx] at hLt
          have hsx : sidx 7 v (.int .i64 (j : Int)) = some (.pointer (some ⟨bi,bo + j * 7,none⟩)) := by rw [hvv]; exact sidx_at hjl
          have hle : bo + j * 7 + 7 ≤ L.length := by omega
          have hjw : IntKind.i64.wrap ((j : Int) + 1) = ((j + 1 : Nat) : Int) := by rw [w64 (by omega)]; omega
          obtain ⟨M,hM⟩ : ∃ M,(m1.push (.own [.string ⟨#[]⟩,.int .i64 0,.string ⟨#[]⟩,.slice none 0 0,.int .i64 0,.string ⟨#[]⟩,.int .i64 0] 101)).set m1.next (.own (putAt [.string ⟨#[]⟩,.int .i64 0,.string ⟨#[]⟩,.slice none 0 0,.int .i64 0,.string ⟨#[]⟩,.int .i64 0] 0 (vC x)) 101) = M := ⟨_,rfl⟩
          have oM : Old m1 M := by subst hM; exact ((Old.refl m1).push _).set (Nat.le_refl _) _
          have gM : M.get m1.next = .own (dsC x.1 x.2) 101 := by subst hM; rw [Mem.set_same]; rfl
          have nM : m1.next < M.next := by subst hM; simp
          have next : chk1 l j x.1 → ∀ (fr' : Fr) (M' : Mem),Old m M' → fr' 0 = ts 0 → fr' 23 = ts 23 → fr' 24 = ts 24 → fr' 25 = .int .i64 ((j + 1 : Nat) : Int) → K fr' M' := fun hc fr' M' oM' e0 e23 e24 e25 =>
            hK (q - 1) _ _ (by omega) ⟨j + 1,by omega,oM',fun k y hk hy => by
              by_cases hkj : k = j
              · subst hkj; rw [hxj] at hy; cases hy; exact hc
              · exact hall k y (by omega) hy,by rw [e0,t0],by rw [e23,t23],by rw [e24,t24],e25⟩
          have bad : ¬ chk1 l j x.1 → ¬ (chkOk l ∧ ∀ x ∈ l,x.1.kd = 1 → G (pats x.1)) := fun h hc => h (hc.1.2 j x hxj)
          have badG : x.1.kd = 1 → ¬ G (pats x.1) → ¬ (chkOk l ∧ ∀ x ∈ l,x.1.kd = 1 → G (pats x.1)) := fun hk h hc => h (hc.2 x hxm hk)
          obtain ⟨⟨lb,kd,tx,arms,n,to,pl⟩,av⟩ := x
          have gx : M.get m1.next = .own [.string ⟨⟨lb⟩⟩,.int .i64 kd,.string ⟨⟨tx⟩⟩,av,.int .i64 n,.string ⟨⟨to⟩⟩,.int .i64 pl] 101 := gM
          have hLt : (L.drop (bo + j * 7)).take 7 = [.string ⟨⟨lb⟩⟩,.int .i64 kd,.string ⟨⟨tx⟩⟩,av,.int .i64 n,.string ⟨⟨to⟩⟩,.int .i64 pl] := hLt
          simp only at hsz hof next bad badG hA1
          simp -implicitDefEqProofs (disch := first | assumption | (simp only [wnA]; done) | (simp only [wnA]; omega) | omega) [hjl,rc19_12,wkA,rtZ,sbZ,dC,ev,fiZ,pkZ,putAt,bnd,slD,gZ0,gZ1,dR_sl,Mem.cell,Mem.row,wmA,t0,t23,t25,hsx,hL,hLt,hle]
          refine SK_stm (i := m1.next) (o := 0) (vs := vC (⟨lb,kd,tx,arms,n,to,pl⟩,av)) (cs := [.string ⟨#[]⟩,.int .i64 0,.string ⟨#[]⟩,.slice none 0 0,.int .i64 0,.string ⟨#[]⟩,.int .i64 0]) (e := 101) (M := M) (by simp [wkA,rtZ,sbZ,dC,ev,fiZ,pkZ,putAt,bnd,slD,gZ0,gZ1,dR_sl]) (by simp -implicitDefEqProofs (disch := first | assumption | (simp only [wnA]; done) | (simp only [wnA]; omega) | omega) [wkA,rtZ,sbZ,dC,ev,fiZ,pkZ,putAt,bnd,slD,gZ0,gZ1,dR_sl,Mem.cell,Mem.row,wmA]) (by simp [wkA,rtZ,sbZ,dC,ev,fiZ,pkZ,putAt,bnd,slD,gZ0,gZ1,dR_sl,vC,dsC]) (by simp) rfl (by simp only [vC,dsC,List.all_cons,List.all_nil,hone.1]; rfl) hM ?_
          clear hM
          have hvM := hv1.old oM
          by_cases hlb : lb = []
          · subst hlb
            simp -implicitDefEqProofs (disch := first | assumption | (simp only [wnA]; done) | (simp only [wnA]; omega) | omega) [wkA,rtZ,sbZ,dC,ev,fiZ,pkZ,putAt,bnd,slD,gZ0,gZ1,dR_sl,Mem.cell,Mem.row,wmA,gx,t0]
            refine w_chk (G := G) (P := P) (x := (⟨[],kd,tx,arms,n,to,pl⟩,av)) ((o1.trans oM).part hp) hvM (by omega) (hA1.old oM) hsz.1 hof gM nM (by simp [t0]) (by simp) (fun hall fr' m' oo ee => ?_) fun hb fr' m' t u oo e3 => ?_
            · have e25 := (ee 25 (by simp)).trans (by simp [t25] : _ = Value.int .i64 (j : Int))
              simp -implicitDefEqProofs (disch := first | assumption | (simp only [wnA]; done) | (simp only [wnA]; omega) | omega) [wkA,rtZ,sbZ,dC,ev,fiZ,pkZ,putAt,bnd,slD,gZ0,gZ1,dR_sl,Mem.cell,Mem.row,wmA,e25,hjw]
              exact next (chk1_of (fun h => absurd rfl h) hall) _ m' ((o1.trans oM).trans oo) (by simpa [t0] using (ee 0 (by simp))) (by simpa [t23] using ee 23 (by simp)) (by simpa [t24] using ee 24 (by simp)) (by simp)
            · simp -implicitDefEqProofs (disch := first | assumption | (simp only [wnA]; done) | (simp only [wnA]; omega) | omega) [wkA,rtZ,sbZ,dC,ev,fiZ,pkZ,putAt,bnd,slD,gZ0,gZ1,dR_sl,Mem.cell,Mem.row,wmA,e3]
              refine herr ?_ m' _ _ _ ((o1.trans oM).trans oo)
              rcases hb with ⟨t',ht',hf'⟩ | ⟨hk,hG⟩
              · exact bad (chk1_not ht' hf')
              · exact badG hk hG
          · have hlb' : lb.isEmpty = false := by cases lb <;> simp at hlb ⊢
            simp -implicitDefEqProofs (disch := first | assumption | (simp only [wnA]; done) | (simp only [wnA]; omega) | omega) [wkA,rtZ,sbZ,dC,ev,fiZ,pkZ,putAt,bnd,slD,gZ0,gZ1,dR_sl,Mem.cell,Mem.row,wmA,gx,t0,hlb,hlb']
            refine c_dFind hvM (by omega) fun m2 o2 => ?_
            have hv2 := hvM.old o2
            have g2 := (o2.2 _ nM).trans gM
            have n2 : m1.next < m2.next := Nat.lt_of_lt_of_le nM o2.1
            have o02 := (o1.trans oM).trans o2
            by_cases hf : findN lb l 0 = (j : Int)
            · simp -implicitDefEqProofs (disch := first | assumption | (simp only [wnA]; done) | (simp only [wnA]; omega) | omega) [wkA,rtZ,sbZ,dC,ev,fiZ,pkZ,putAt,bnd,slD,gZ0,gZ1,dR_sl,Mem.cell,Mem.row,wmA,hf,bne]
              refine w_chk (G := G) (P := P) (x := (⟨lb,kd,tx,arms,n,to,pl⟩,av)) (o02.part hp) hv2 (by omega) ((hA1.old oM).old o2) hsz.1 hof g2 n2 (by simp [t0]) (by simp) (fun hall fr' m' oo ee => ?_) fun hb fr' m' t u oo e3 => ?_
              · have e25 := (ee 25 (by simp)).trans (by simp [t25] : _ = Value.int .i64 (j : Int))
                simp -implicitDefEqProofs (disch := first | assumption | (simp only [wnA]; done) | (simp only [wnA]; omega) | omega) [wkA,rtZ,sbZ,dC,ev,fiZ,pkZ,putAt,bnd,slD,gZ0,gZ1,dR_sl,Mem.cell,Mem.row,wmA,e25,hjw]
                exact next (chk1_of (fun _ => hf) hall) _ m' (o02.trans oo) (by simpa [t0] using (ee 0 (by simp))) (by simpa [t23] using ee 23 (by simp)) (by simpa [t24] using ee 24 (by simp)) (by simp)
              · simp -implicitDefEqProofs (disch := first | assumption | (simp only [wnA]; done) | (simp only [wnA]; omega) | omega) [wkA,rtZ,sbZ,dC,ev,fiZ,pkZ,putAt,bnd,slD,gZ0,gZ1,dR_sl,Mem.cell,Mem.row,wmA,e3]
                refine herr ?_ m' _ _ _ (o02.trans oo)
                rcases hb with ⟨t',ht',hf'⟩ | ⟨hk,hG⟩
                · exact bad (chk1_not ht' hf')
                · exact badG hk hG
            · simp -implicitDefEqProofs (disch := first | assumption | (simp only [wnA]; done) | (simp only [wnA]; omega) | omega) [wkA,rtZ,sbZ,dC,ev,fiZ,pkZ,putAt,bnd,slD,gZ0,gZ1,dR_sl,Mem.cell,Mem.row,wmA,bneT hf]
              exact herr (bad fun hc => hf (hc.1 hlb)) m2 _ _ _ o02
        · have hjj : j = l.length := by omega
          subst hjj
          simp -implicitDefEqProofs (disch := first | assumption | (simp only [wnA]; done) | (simp only [wnA]; omega) | omega) [hjl,rc19_14,wkA,rtZ,sbZ,dC,ev,fiZ,pkZ,putAt,bnd,slD,gZ0,gZ1,dR_sl,Mem.cell,Mem.row,wmA]
          exact hok ⟨⟨by omega,by omega⟩,fun k x hx => hall k x (by
            rcases Nat.lt_or_ge k l.length with h' | h'
            · exact h'
            · rw [List.getElem?_eq_none h'] at hx; cases hx) hx⟩ m1 o1
theorem SK_mkm {P : Program} {w0 : World} {ts : Fr} {m : Mem} {R : Value → Mem → Prop} : SK P w0 (.e .mkm) ts m R = R (.map (some m.next)) (m.push (.map [] 0)) := rfl
def pl0 (im : Nat) : PlS := ⟨0,im,none,0,0,none,[],fun _ => 0⟩
theorem c_POfV {w0 : World} {V : List Nat} {m : Mem} {v : Value} {l : List DV} {G : List (List UInt8) → Prop} {P : List (List UInt8) → List (Tab × List Bool) → Prop} {J : PlS → Prop} {Q : Value → Mem → Prop} (hp : Part L0 m) (hx : DsX (fun i => i ∉ V) m v l) (hVm : ∀ i ∈ V,i < m.next ∧ L0.n ≤ i) (hS : StepsOk w0 G P l) (hJ : chkOk l → SafeJ G P l J ∧ ∀ im,J (pl0 im))
    (hgood : chkOk l → ∀ m' ip im sv s' out ob,RunR G P l 0 (pl0 im) [] s' out → PlayV V m' ip sv l s' → Old m m' → (∀ i ∈ ownP ip s',m.next ≤ i) → SlO m' 5 1 ob (out.map byteV) out.length → (∀ i,ob = some i → m.next ≤ i) → Q (.tuple ⟨[.pointer (some ⟨ip,0,none⟩),slV ob out.length 1]⟩) m')
    (hbad : ¬ (chkOk l ∧ ∀ x ∈ l,x.1.kd = 1 → G (pats x.1)) → ∀ m' ip im sv,PlayV V m' ip sv l { pl0 im with st := 2 } → Old m m' → m.next ≤ ip → m.next ≤ im → Q (.tuple ⟨[.pointer (some ⟨ip,0,none⟩),.slice none 0 0]⟩) m') :
    AbC Tryz.prog w0 31 [v] m Q := by
  refine AbC_fn ok31 (by simp) ?_
  have hv := hx.dsV
  have hel := hv.sl.elems
  have hlv := hv.sl.lenV
  have hll := hS.len
  have hone : (l.flatMap vC).all oneC = true := by
    rw [List.all_eq_true]
    intro c hc
    obtain ⟨x,hx,hc⟩ := List.mem_flatMap.1 hc
    have := (hv.ar x hx).sl.one.1
    simp only [vC,dsC,List.mem_cons,List.not_mem_nil,or_false] at hc
    rcases hc with rfl | rfl | rfl | rfl | rfl | rfl | rfl <;> first | rfl | exact this
  simp -implicitDefEqProofs (disch := first | assumption | (simp only [wnA]; done) | (simp only [wnA]; omega) | omega) [rc31,ro31,wkA,rtZ,sbZ,dC,ev,fiZ,pkZ,putAt,bnd,slD,gZ0,gZ1,dR_sl,Mem.cell,Mem.row,wmA]
  refine SK_app_new (k := l.length) (ys := l.flatMap vC) (by simp [wkA,rtZ,sbZ,dC,ev,fiZ,pkZ,putAt,bnd,slD,gZ0,gZ1,dR_sl]) (by simpa [wkA,rtZ,sbZ,dC,ev,fiZ,pkZ,putAt,bnd,slD,gZ0,gZ1,dR_sl] using hel) (by simpa [wkA,rtZ,sbZ,dC,ev,fiZ,pkZ,putAt,bnd,slD,gZ0,gZ1,dR_sl] using hlv) hone (by omega) (by simp only [maxLen]; omega) (by rw [flat_len vC_len]) fun oc m1 sc hn1 hoc hge => ?_
  have o1 : Old m m1 := ⟨hn1,hge⟩
  simp -implicitDefEqProofs (disch := first | assumption | (simp only [wnA]; done) | (simp only [wnA]; omega) | omega) [wkA,rtZ,sbZ,dC,ev,fiZ,pkZ,putAt,bnd,slD,gZ0,gZ1,dR_sl,Mem.cell,Mem.row,wmA]
  rw [SK_mkm]
  simp -implicitDefEqProofs (disch := first | assumption | (simp only [wnA]; done) | (simp only [wnA]; omega) | omega) [wkA,rtZ,sbZ,dC,ev,fiZ,pkZ,putAt,bnd,slD,gZ0,gZ1,dR_sl,Mem.cell,Mem.row,wmA]
  obtain ⟨sv,hsv⟩ : ∃ sv,slV oc l.length 7 = sv := ⟨_,rfl⟩
  have hsv1 : oneC sv = true ∧ cellsV sv = [sv] := by subst hsv; cases oc <;> exact ⟨rfl,rfl⟩
  obtain ⟨M,hM⟩ : ∃ M,(m1.push (.map [] 0)).push (.own (plC sv (pl0 m1.next)) 121) = M := ⟨_,rfl⟩
  have oM : Old m1 M := by subst hM; exact ((Old.refl m1).push _).push _
  have gM : M.get (m1.next + 1) = .own (plC sv (pl0 m1.next)) 121 := by subst hM; rw [Mem.push_at _ _ (by simp)]
  have gm : M.get m1.next = .map [] 0 := by subst hM; rw [Mem.push_old _ _ (by simp),Mem.push_same]
  have nM : M.next = m1.next + 2 := by subst hM; simp
  have hown : ownP (m1.next + 1) (pl0 m1.next) = [m1.next + 1,m1.next] := by simp [ownP,pl0]
  have hP : PlayV V M (m1.next + 1) sv l (pl0 m1.next) := by
    have hX : ∀ i,i < m1.next → i ∉ V → i ∉ ownP (m1.next + 1) (pl0 m1.next) ++ V := fun i hi hn hm => by
      rcases List.mem_append.1 hm with hm | hm
      · rw [hown] at hm
        simp only [List.mem_cons,List.not_mem_nil,or_false] at hm
        omega
      · exact hn hm
    refine ⟨gM,⟨⟨?_,fun b hb => ?_⟩,fun x hxm => ⟨((hv.ar x hxm).old (o1.trans oM)).sl,fun b hb => ?_⟩⟩,⟨[],0,gm,(fun e he => by cases he),fun k => rfl⟩,⟨rfl,rfl⟩,(fun w hw => by cases hw),by rw [hown]; simp,fun i hi => ?_,(o1.trans oM).part hp,fun i hi => ?_,fun i hi hiV => ?_⟩
    · subst hsv
      exact (sc.keep oM.1 fun b hb => oM.2 b (by subst hb; exact sc.lt)).read
    · subst hsv
      rw [blk_slV] at hb
      subst hb
      have := sc.lt
      exact ⟨by omega,hX b this fun hm => by have := (hVm b hm).1; have := hoc b rfl; omega⟩
    · have h1 := (hx.ar x hxm).bl b hb
      exact ⟨by omega,hX b (by omega) h1.2⟩
    · rcases List.mem_append.1 hi with hi | hi
      · rw [hown] at hi
        simp only [List.mem_cons,List.not_mem_nil,or_false] at hi
        omega
      · have := (hVm i hi).1; omega
    · rw [hown] at hi
      have := hp.1
      simp only [List.mem_cons,List.not_mem_nil,or_false] at hi
      omega
    · rw [hown] at hi
      have := (hVm i hiV).1
      simp only [List.mem_cons,List.not_mem_nil,or_false] at hi
      omega
  have hM' : (m1.push (.map [] 0)).push (.own [slV oc l.length 7,.int .i64 0,.map (some m1.next),.pointer none,.int .i64 0,.int .i64 0,.int .i64 0,.slice none 0 0] 121) = M := by rw [hsv]; exact hM
  rw [hM']
  have o0M := o1.trans oM
  refine c_dCheck (G := G) (P := P) (o0M.part hp) (hv.old o0M) hS (fun hok m2 o2 => ?_) fun hb m2 k t u o2 => ?_
  · have hP2 := hP.old o2
    obtain ⟨hSJ,hJ0⟩ := hJ hok
    simp -implicitDefEqProofs (disch := first | assumption | (simp only [wnA]; done) | (simp only [wnA]; omega) | omega) [rc31_0,wkA,rtZ,sbZ,dC,ev,fiZ,pkZ,putAt,bnd,slD,gZ0,gZ1,dR_sl,Mem.cell,Mem.row,wmA]
    refine c_run hP2 hS hSJ (hJ0 _) (fun i hi hlo => by have := (hVm i hi).2; omega) fun m3 s3 out ob hR hP3 k3 so hob how => ?_
    simp -implicitDefEqProofs (disch := first | assumption | (simp only [wnA]; done) | (simp only [wnA]; omega) | omega) [wkA,rtZ,sbZ,dC,ev,fiZ,pkZ,putAt,bnd,slD,gZ0,gZ1,dR_sl,Mem.cell,Mem.row,wmA]
    have o02 := o0M.trans o2
    have hbig : ∀ i ∈ ownP (m1.next + 1) (pl0 m1.next),m.next ≤ i := fun i hi => by
      rw [hown] at hi
      simp only [List.mem_cons,List.not_mem_nil,or_false] at hi
      omega
    refine hgood hok m3 (m1.next + 1) m1.next sv s3 out ob hR hP3 ⟨Nat.le_trans o02.1 k3.1,fun i hi => ?_⟩ (fun i hi => ?_) so fun i hi => Nat.le_trans o02.1 (hob i hi)
    · rw [k3.2 i (Nat.lt_of_lt_of_le hi o02.1) (fun hm => by have := hbig i hm; omega),o02.2 i hi]
    · rcases how i hi with h1 | h1
      · exact hbig i h1
      · exact Nat.le_trans o02.1 h1
  · have hP2 := hP.old o2
    simp -implicitDefEqProofs (disch := first | assumption | (simp only [wnA]; done) | (simp only [wnA]; omega) | omega) [wkA,rtZ,sbZ,dC,ev,fiZ,pkZ,putAt,bnd,slD,gZ0,gZ1,dR_sl,Mem.cell,Mem.row,wmA]
    refine hP2.store 0 0 2 6 (.int .i64 2) (by simp [wkA,rtZ,sbZ,dC,ev,fiZ,pkZ,putAt,bnd,slD,gZ0,gZ1,dR_sl]) (by simp [wkA,rtZ,sbZ,dC,ev,fiZ,pkZ,putAt,bnd,slD,gZ0,gZ1,dR_sl]) rfl (by omega) rfl fun M3 hP3 k3 => ?_
    simp -implicitDefEqProofs (disch := first | assumption | (simp only [wnA]; done) | (simp only [wnA]; omega) | omega) [wkA,rtZ,sbZ,dC,ev,fiZ,pkZ,putAt,bnd,slD,gZ0,gZ1,dR_sl,Mem.cell,Mem.row,wmA]
    refine hbad hb M3 (m1.next + 1) m1.next sv hP3 ⟨Nat.le_trans (o0M.trans o2).1 k3.1,fun i hi => ?_⟩ (by omega) (by omega)
    rw [k3.2 i (Nat.lt_of_lt_of_le hi (o0M.trans o2).1) (by omega),(o0M.trans o2).2 i hi]
end Go.Proofs.YtccjlggpiliilaaGreatDoor.Ab

namespace Go.Proofs
open Go.Shelf
def Tryz.laysM246_ren : Go.Shelf.Ren := ⟨fun | 246 => 67 | 283 => 89 | 284 => 90 | 285 => 91 | 286 => 92 | 129 => 108 | 317 => 107 | 318 => 109 | 319 => 110 | 320 => 111 | 337 => 119 | 338 => 120 | n => n,fun | 2 => 2 | 3 => 3 | 9 => 9 | 4 => 4 | 171 => 213 | 0 => 0 | 53 => 148 | 37 => 28 | 5 => 5 | 173 => 216 | 212 => 246 | 51 => 53 | 20 => 20 | 213 => 247 | 46 => 142 | 232 => 256 | 233 => 257 | n => n,fun | 17 => 1 | 18 => 2 | 19 => 3 | n => n⟩
theorem Tryz.laysM246 : Go.Proofs.LaysM.n246 Tryz.prog Tryz.laysM246_ren := {
  mixed := by kernel_rfl
  f129 := Tryz.func108.trans (congrArg some (by kernel_rfl))
  f246 := Tryz.func67.trans (congrArg some (by kernel_rfl))
  f283 := Tryz.func89.trans (congrArg some (by kernel_rfl))
  f284 := Tryz.func90.trans (congrArg some (by kernel_rfl))
  f285 := Tryz.func91.trans (congrArg some (by kernel_rfl))
  f286 := Tryz.func92.trans (congrArg some (by kernel_rfl))
  f317 := Tryz.func107.trans (congrArg some (by kernel_rfl))
  f318 := Tryz.func109.trans (congrArg some (by kernel_rfl))
  f319 := Tryz.func110.trans (congrArg some (by kernel_rfl))
  f320 := Tryz.func111.trans (congrArg some (by kernel_rfl))
  f337 := Tryz.func119.trans (congrArg some (by kernel_rfl))
  f338 := Tryz.func120.trans (congrArg some (by kernel_rfl))
  t0 := Tryz.underlying0
  a0 := Tryz.isAgg0
  z0 := Tryz.sizeOf0
  v0 := Tryz.zeroValue0
  t2 := Tryz.underlying2
  a2 := Tryz.isAgg2
  z2 := Tryz.sizeOf2
  v2 := Tryz.zeroValue2
  t3 := Tryz.underlying3
  a3 := Tryz.isAgg3
  z3 := Tryz.sizeOf3
  v3 := Tryz.zeroValue3
  t4 := Tryz.underlying4
  a4 := Tryz.isAgg4
  z4 := Tryz.sizeOf4
  v4 := Tryz.zeroValue4
  t5 := Tryz.underlying5
  a5 := Tryz.isAgg5
  z5 := Tryz.sizeOf5
  v5 := Tryz.zeroValue5
  t9 := Tryz.underlying9
  a9 := Tryz.isAgg9
  z9 := Tryz.sizeOf9
  v9 := Tryz.zeroValue9
  t20 := Tryz.underlying20
  a20 := Tryz.isAgg20
  z20 := Tryz.sizeOf20
  v20 := Tryz.zeroValue20
  t37 := Tryz.underlying28
  a37 := Tryz.isAgg28
  z37 := Tryz.sizeOf28
  v37 := Tryz.zeroValue28
  t46 := Tryz.underlying142
  a46 := Tryz.isAgg142
  z46 := Tryz.sizeOf142
  v46 := Tryz.zeroValue142
  t51 := Tryz.underlying53
  a51 := Tryz.isAgg53
  z51 := Tryz.sizeOf53
  v51 := Tryz.zeroValue53
  t53 := Tryz.underlying148
  a53 := Tryz.isAgg148
  z53 := Tryz.sizeOf148
  v53 := Tryz.zeroValue148
  t171 := Tryz.underlying213
  a171 := Tryz.isAgg213
  z171 := Tryz.sizeOf213
  v171 := Tryz.zeroValue213
  t173 := Tryz.underlying216
  a173 := Tryz.isAgg216
  z173 := Tryz.sizeOf216
  v173 := Tryz.zeroValue216
  t212 := Tryz.underlying246
  a212 := Tryz.isAgg246
  z212 := Tryz.sizeOf246
  v212 := Tryz.zeroValue246
  t213 := Tryz.underlying247
  a213 := Tryz.isAgg247
  z213 := Tryz.sizeOf247
  t232 := Tryz.underlying256
  a232 := Tryz.isAgg256
  z232 := Tryz.sizeOf256
  v232 := Tryz.zeroValue256
  t233 := Tryz.underlying257
  a233 := Tryz.isAgg257
  z233 := Tryz.sizeOf257
  v233 := Tryz.zeroValue257
  g17 := by kernel_rfl
  g18 := by kernel_rfl
  g19 := by kernel_rfl
  i0 := by kernel_rfl
  i2 := by kernel_rfl
  i3 := by kernel_rfl
  i4 := by kernel_rfl
  i5 := by kernel_rfl
  i9 := by kernel_rfl
  i20 := by kernel_rfl
  i37 := by kernel_rfl
  i46 := by kernel_rfl
  i51 := by kernel_rfl
  i53 := by kernel_rfl
  i171 := by kernel_rfl
  i173 := by kernel_rfl
  i212 := by kernel_rfl
  i232 := by kernel_rfl
  i233 := by kernel_rfl
  m17 := by kernel_rfl
  m18 := by kernel_rfl
  m19 := by kernel_rfl }
open Go.RowKit Go.Sort Go.Lib in
theorem Tryz.internal_strconv_FormatInt_10 (n : Int) (h0 : -9223372036854775808 ≤ n) (h1 : n ≤ 9223372036854775807) (w : World) (htab : Lib.TabIs Tryz.prog w "internal/strconv.uint64pow10" .u64 Lib.pow10Tab) :
    Calls Tryz.prog 67 #[.int .i64 n,.int .i64 10] w fun e w' => e = .returned (.string ⟨(Lib.itoa n).toArray⟩) ∧ ∃ k os,w' = grow (w.drewN k) os := Any.internal_strconv_FormatInt_10 Tryz.laysM246 n h0 h1 w htab
end Go.Proofs

set_option linter.unusedVariables false
set_option linter.unusedSimpArgs false
namespace Go.Proofs.YtccjlggpiliilaaGreatDoor.Ab
open Go Go.RowKit
set_option maxHeartbeats 4000000
set_option maxRecDepth 100000
abbrev Ten (w : World) : Prop := Lib.TabIs Tryz.prog w "internal/strconv.uint64pow10" .u64 Lib.pow10Tab
theorem tab_at {P : Program} {w0 w : World} {G : Loc} {m : Mem} {name : String} {k : IntKind} {zs : List Int} (h : Lib.TabIs P w0 name k zs) (hs : St P w0 G m w) : Lib.TabIs P w name k zs := by
  unfold Lib.TabIs World.var? at h ⊢
  cases hg : P.globalNamed name with
  | none => rw [hg] at h; simp at h
  | some g =>
    rw [hg] at h
    simp only [Option.bind_some] at h ⊢
    have hlt : g < w0.heap.size := by
      rcases Nat.lt_or_ge g w0.heap.size with h' | h'
      · exact h'
      · rw [Array.getElem?_eq_none h'] at h; cases h
    rw [hs.below.block g hlt]; exact h
theorem tab_mem {P : Program} {W : World} {l : List (String × DataW Unit)} {name : String} {k : IntKind} {zs : List Int} {g : Nat} {t e : TypeId} {n : Nat} (h : laidMet P l W) (hm : (name,Lib.tabData k zs) ∈ l)
    (hg : P.globalNamed name = some g) (hty : (P.globals[g]?).map (·.type) = some t) (ht : P.underlying t = some (.array n e)) (he : P.underlying e = some (.int k)) (hce : P.cellsOf e = 1) (hct : P.cellsOf t = n) : Lib.TabIs P W name k zs := by
  obtain ⟨ps,hv,_⟩ := h
  obtain ⟨g',t',cs,fuel,p,h1,h2,h3,h4⟩ := laid_mem hv hm
  obtain rfl := Option.some.inj (hg.symm.trans h1)
  obtain rfl := Option.some.inj (hty.symm.trans h2)
  have hcs := Lib.cells_of_tab ht he hce hct h4
  unfold Lib.TabIs
  rw [h3]
  congr 1
  exact Array.ext' (by simpa using hcs)
theorem ten_of {W : World} {l : List (String × DataW Unit)} (h : laidMet Tryz.prog l W) (hm : ("internal/strconv.uint64pow10", Lib.tabData .u64 z10) ∈ l) : Ten W := by
  have e : Lib.pow10Tab = z10 := by kernel_rfl
  unfold Ten
  rw [e]
  exact tab_mem (g := 1) h hm (by kernel_rfl) (by kernel_rfl) Tryz.underlying246 Tryz.underlying148 (by kernel_rfl) (by kernel_rfl)
theorem c_calls {P : Program} {w0 : World} {m : Mem} {f : FuncId} {args : List Value} {v : Value} {Q : Value → Mem → Prop} (hcall : callOk P f = true) (ha : args.all (plainV 6) = true) (hv : plainV 6 v = true)
    (h : ∀ (G : Loc) (w : World),St P w0 G m w → Calls P f args.toArray w fun e w' => e = .returned v ∧ Below w.heap.size w w') (hq : Q v m) : AbC P w0 f args m Q := by
  intro G w args' hs hargs
  have ha' : ∀ u ∈ args,plainV 6 u = true := by simpa [List.all_eq_true] using ha
  have he : args' = args := VRs.plain_eq hargs fun u hu u' hr => VR.plain_eq 6 u u' (ha' u hu) hr
  subst he
  rw [run_callFunc_enter hcall]
  show Calls _ _ _ _ _
  refine (h G w hs).mono ?_
  rintro e w' ⟨rfl,hb⟩
  exact ⟨v,rfl,G,v,m,Loc.le_refl G,VR.plain 6 v hv,hs.grown hb,hq⟩
def numS (B : Nat) (i : Int) : List UInt8 := sgn (decide (i < 0)) ++ digs B i.natAbs
theorem dec_digs : ∀ u,Lib.decDigits u = digs 10 u := by
  intro u
  induction u using Nat.strongRecOn with
  | _ u ih =>
    rw [Lib.decDigits]
    split
    · rename_i h
      rw [digs_lt h]; simp [digC,h]
    · rename_i h
      rw [digs_ge (by omega) (by omega),ih (u / 10) (by omega)]
      simp [digC,Nat.mod_lt]
theorem itoa_numS (n : Int) : Lib.itoa n = numS 10 n := by
  unfold Lib.itoa numS sgn
  by_cases h : n < 0
  · simp [h,dec_digs]
  · have : n.toNat = n.natAbs := by omega
    simp [h,dec_digs,this]
theorem c_fmt10 {w0 : World} {m : Mem} {n : Int} {Q : Value → Mem → Prop} (ht : Ten w0) (hn : -9223372036854775808 ≤ n ∧ n ≤ 9223372036854775807) (hq : Q (.string ⟨⟨numS 10 n⟩⟩) m) :
    AbC Tryz.prog w0 67 [.int .i64 n,.int .i64 10] m Q := by
  refine c_calls (v := .string ⟨⟨numS 10 n⟩⟩) (by kernel_rfl) rfl rfl (fun G w hs => ?_) hq
  refine (Tryz.internal_strconv_FormatInt_10 n hn.1 hn.2 w (tab_at ht hs)).mono ?_
  rintro e w' ⟨rfl,k,os,rfl⟩
  exact ⟨by rw [itoa_numS],Lib.below_grow _ w (Nat.le_refl _) k os⟩
theorem c_fmtP {w0 : World} {m : Mem} {B k : Nat} {i : Int} {Q : Value → Mem → Prop} (hp : Part L0 m) (hB : B = 2 ^ k) (hk : 3 ≤ k ∧ k ≤ 5) (h10 : B ≠ 10) (hi : -9223372036854775808 ≤ i ∧ i ≤ 9223372036854775807)
    (h1 : outIs (.bool true) (callE tab (xCall xs) Tryz.prog 50 110 [.int .i64 (B : Int)] L0) = true)
    (h2 : outIs (.int .i64 (k : Int)) (callE tab (xCall xs) Tryz.prog 50 111 [.int .u64 (B : Int)] L0) = true)
    (hq : ∀ m',Old m m' → Q (.string ⟨⟨numS B i⟩⟩) m') : AbC Tryz.prog w0 67 [.int .i64 i,.int .i64 (B : Int)] m Q := by
  refine AbC_fn ok67 (by simp) ?_
  have f2 : (B : Int) ≠ 10 := by omega
  simp -implicitDefEqProofs (disch := first | assumption | (simp only [wnA]; done) | (simp only [wnA]; omega) | omega) [rc67,ro67,wkA,rtZ,sbZ,dC,ev,fiZ,pkZ,putAt,bnd,slD,gZ0,gZ1,dR.eq_20,Mem.cell,Mem.row,wmA,beqF f2,rc67_3]
  refine c_fmtBits (k := k) (a := i.natAbs) hp hB hk h10 (by omega) ?_ h1 h2 fun m' ho => ?_
  · by_cases hn : i < 0
    · simp only [hn,decide_true,if_true]
      congr 1; omega
    · simp only [hn,decide_false,Bool.false_eq_true,if_false]
      rw [IntWalk.u64_in _ (by omega)]; omega
  · simp -implicitDefEqProofs (disch := first | assumption | (simp only [wnA]; done) | (simp only [wnA]; omega) | omega) [wkA,rtZ,sbZ,dC,ev,fiZ,pkZ,putAt,bnd,slD,gZ0,gZ1,dR.eq_20,Mem.cell,Mem.row,wmA]
    exact hq m' ho
theorem pow8 : outIs (.bool true) (callE tab (xCall xs) Tryz.prog 50 110 [.int .i64 ((8 : Nat) : Int)] L0) = true := by kernel_rfl
theorem tz8 : outIs (.int .i64 ((3 : Nat) : Int)) (callE tab (xCall xs) Tryz.prog 50 111 [.int .u64 ((8 : Nat) : Int)] L0) = true := by kernel_rfl
theorem pow16 : outIs (.bool true) (callE tab (xCall xs) Tryz.prog 50 110 [.int .i64 ((16 : Nat) : Int)] L0) = true := by kernel_rfl
theorem tz16 : outIs (.int .i64 ((4 : Nat) : Int)) (callE tab (xCall xs) Tryz.prog 50 111 [.int .u64 ((16 : Nat) : Int)] L0) = true := by kernel_rfl
theorem c_FormatInt {w0 : World} {m : Mem} {B : Nat} {i : Int} {Q : Value → Mem → Prop} (hp : Part L0 m) (ht : Ten w0) (hB : B = 8 ∨ B = 10 ∨ B = 16) (hi : -9223372036854775808 ≤ i ∧ i ≤ 9223372036854775807)
    (hq : ∀ m',Old m m' → Q (.string ⟨⟨numS B i⟩⟩) m') : AbC Tryz.prog w0 47 [.int .i64 i,.int .i64 (B : Int)] m Q := by
  refine AbC_fn ok47 (by simp) ?_
  simp -implicitDefEqProofs (disch := first | assumption | (simp only [wnA]; done) | (simp only [wnA]; omega) | omega) [rc47,ro47,wkA,rtZ,sbZ,dC,ev,fiZ,pkZ,putAt,bnd,slD,gZ0,gZ1,dR.eq_20,Mem.cell,Mem.row,wmA]
  have key : AbC Tryz.prog w0 67 [.int .i64 i,.int .i64 (B : Int)] m fun v m' => v = .string ⟨⟨numS B i⟩⟩ ∧ Old m m' := by
    rcases hB with rfl | rfl | rfl
    · exact c_fmtP hp (k := 3) rfl (by omega) (by omega) hi pow8 tz8 fun m' ho => ⟨rfl,ho⟩
    · exact c_fmt10 ht hi ⟨rfl,Old.refl m⟩
    · exact c_fmtP hp (k := 4) rfl (by omega) (by omega) hi pow16 tz16 fun m' ho => ⟨rfl,ho⟩
  refine key.mono ?_
  rintro v m' ⟨rfl,ho⟩
  simp -implicitDefEqProofs (disch := first | assumption | (simp only [wnA]; done) | (simp only [wnA]; omega) | omega) [wkA,rtZ,sbZ,dC,ev,fiZ,pkZ,putAt,bnd,slD,gZ0,gZ1,dR.eq_20,Mem.cell,Mem.row,wmA]
  exact hq m' ho
theorem numS_len {B : Nat} (hB : 2 ≤ B) {i : Int} {L : Nat} (hi : i.natAbs < B ^ L) (hL : 1 ≤ L) : (numS B i).length ≤ L + 1 := by
  have := digs_len hB L _ hi
  unfold numS sgn
  split <;> simp <;> omega
end Go.Proofs.YtccjlggpiliilaaGreatDoor.Ab

set_option linter.unusedVariables false
set_option linter.unusedSimpArgs false
namespace Go.Proofs.YtccjlggpiliilaaGreatDoor.Ab
open Go Go.RowKit
section
variable {m : Mem}
theorem arg_u8 (d : TD) (c : List Value) (hf : Fits (.int .u8) d) (h : AbsT m d c) : ∃ a : UInt8,c = [byteV a] ∧ True := by
  obtain ⟨n,rfl,rfl,hw⟩ := absT_int h hf
  have hw' : 0 ≤ n ∧ n ≤ 255 := by simpa [Lit.wf,IntKind.min,IntKind.max,IntKind.signed,IntKind.bits] using hw
  refine ⟨UInt8.ofNat n.toNat,?_,trivial⟩
  have : (UInt8.ofNat n.toNat).toNat = n.toNat := by
    rw [UInt8.toNat_ofNat']; omega
  simp only [byteV,this]
  congr 2; omega
theorem flat_one {α : Type} (f : α → Value) : ∀ l : List α,l.flatMap (fun b => [f b]) = l.map f
  | [] => rfl
  | x :: l => by simp [flat_one f l]
theorem absT_bys {td : TD} {v : Value} (h : AbsT m td [v]) (hs : Fits (.sl (.int .u8)) td) :
    ∃ bs : List UInt8,SlR m 1 v (bs.map byteV) bs.length ∧ (∀ b,blk v = some b → b < m.next) ∧ bs.length + 1 ≤ td.bulk := by
  obtain ⟨l,xs,rfl,h1,h2,h3⟩ := absT_slice (f := fun b : UInt8 => [byteV b]) (z := 1) (R := fun _ _ => True) (fun _ => rfl) arg_u8 h hs
  rw [flat_one byteV] at h1
  refine ⟨xs,h1,h3,?_⟩
  have := TD.bulks_len l
  rw [h2.length]
  simp [TD.bulk]; omega
theorem sl_max {G : Loc} {v v' : Value} {sz n : Nat} {cs : List Value} (h : SlR m sz v cs n) (hu : VR G v v') : n ≤ maxLen := by
  rcases h.2 with ⟨rfl,_⟩ | ⟨i,o,L,rfl,_⟩
  · exact Nat.zero_le _
  · cases hu with
    | sl _ _ _ _ _ _ c _ _ hn hc => omega
theorem wf_u16 {n : Int} (h : (Lit.int .u16 n).wf = true) : 0 ≤ n ∧ n ≤ 65535 := by
  have : 0 ≤ n ∧ n ≤ 65535 := by simpa [Lit.wf,IntKind.min,IntKind.max,IntKind.signed,IntKind.bits] using h
  exact this
theorem wf_u32 {n : Int} (h : (Lit.int .u32 n).wf = true) : 0 ≤ n ∧ n ≤ 4294967295 := by
  have : 0 ≤ n ∧ n ≤ 4294967295 := by simpa [Lit.wf,IntKind.min,IntKind.max,IntKind.signed,IntKind.bits] using h
  exact this
theorem wf_u8 {n : Int} (h : (Lit.int .u8 n).wf = true) : 0 ≤ n ∧ n ≤ 255 := by
  have : 0 ≤ n ∧ n ≤ 255 := by simpa [Lit.wf,IntKind.min,IntKind.max,IntKind.signed,IntKind.bits] using h
  exact this
end
end Go.Proofs.YtccjlggpiliilaaGreatDoor.Ab

set_option linter.unusedVariables false
set_option linter.unusedSimpArgs false
namespace Go.Proofs.YtccjlggpiliilaaGreatDoor.Ab
open Go Go.RowKit
set_option maxHeartbeats 4000000
set_option maxRecDepth 100000
noncomputable def st1 (r : Nat) : Nat := Bool.rec (Nat.xor (Nat.mod (Nat.mul r 2) 65536) 4129) (Nat.mod (Nat.mul r 2) 65536) (Nat.beq (Nat.land r 32768) 0)
noncomputable def itS : Nat → Nat → Nat
  | 0,r => r
  | j + 1,r => st1 (itS j r)
noncomputable def stepN (r : Nat) : Nat := itS 8 r
noncomputable def crcN (l : List UInt8) : Nat := l.foldl (fun r c => stepN (Nat.xor r (Nat.mul c.toNat 256))) 0
def chkN (l : List UInt8) : Nat := l.foldl (fun r c => (r + c.toNat) % 256) 0
theorem getL1 {L : List Value} {k : Nat} {x : Value} (h : L[k]? = some x) : ∀ hk : k < L.length,L[k]'hk = x := fun hk => by
  rw [List.getElem?_eq_getElem hk] at h
  exact Option.some.inj h
theorem w16 {z : Nat} (h : z < 65536) : IntKind.u16.wrap (z : Int) = (z : Int) := by
  simp only [IntKind.wrap,IntKind.bits,IntKind.signed]
  simp
  omega
theorem w8 {z : Nat} (h : z < 256) : IntKind.u8.wrap (z : Int) = (z : Int) := by
  simp only [IntKind.wrap,IntKind.bits,IntKind.signed]
  simp
  omega
theorem xor16 {a b : Nat} (ha : a < 65536) (hb : b < 65536) : Nat.xor a b < 65536 := Nat.xor_lt_two_pow (n := 16) ha hb
theorem st1_lt {r : Nat} (h : r < 65536) : st1 r < 65536 := by
  have h1 : Nat.mod (Nat.mul r 2) 65536 < 65536 := Nat.mod_lt _ (by omega)
  unfold st1
  cases Nat.beq (Nat.land r 32768) 0
  · exact xor16 h1 (by omega)
  · exact h1
theorem itS_lt {r : Nat} (h : r < 65536) : ∀ j,itS j r < 65536
  | 0 => h
  | j + 1 => st1_lt (itS_lt h j)
theorem stepN_lt {r : Nat} (h : r < 65536) : stepN r < 65536 := itS_lt h 8
theorem d_xor {a b : Nat} (ha : a < 65536) (hb : b < 65536) : dBin .xor (.int .u16 (a : Int)) (.int .u16 (b : Int)) = some (.int .u16 ((Nat.xor a b : Nat) : Int)) := by
  have h := binI_eq (op := .xor) (k := .u16) (a := Int.ofNat a) (b := Int.ofNat b) (v := .int .u16 (IntKind.u16.wrap (Int.ofNat (Nat.xor a b)))) (by
    simp only [binI,bitI]
    rw [blt_true.2 (show a < kTop .u16 by simpa [kTop] using ha),blt_true.2 (show b < kTop .u16 by simpa [kTop] using hb)]
    simp only [wrapF_eq])
  have w : IntKind.u16.wrap (Int.ofNat (Nat.xor a b)) = ((Nat.xor a b : Nat) : Int) := w16 (xor16 ha hb)
  rw [w] at h
  exact h
theorem d_and {a b : Nat} (ha : a < 65536) (hb : b < 65536) : dBin .and (.int .u16 (a : Int)) (.int .u16 (b : Int)) = some (.int .u16 ((Nat.land a b : Nat) : Int)) := by
  have h := binI_eq (op := .and) (k := .u16) (a := Int.ofNat a) (b := Int.ofNat b) (v := .int .u16 (IntKind.u16.wrap (Int.ofNat (Nat.land a b)))) (by
    simp only [binI,bitI]
    rw [blt_true.2 (show a < kTop .u16 by simpa [kTop] using ha),blt_true.2 (show b < kTop .u16 by simpa [kTop] using hb)]
    simp only [wrapF_eq])
  have w : IntKind.u16.wrap (Int.ofNat (Nat.land a b)) = ((Nat.land a b : Nat) : Int) := w16 (Nat.and_lt_two_pow (n := 16) _ hb)
  rw [w] at h
  exact h
theorem d_sh1 {a : Nat} : dBin .shl (.int .u16 (a : Int)) (.int .u64 1) = some (.int .u16 ((Nat.mod (Nat.mul a 2) 65536 : Nat) : Int)) := by
  have : IntKind.u16.wrap ((a : Int) * 2) = ((Nat.mod (Nat.mul a 2) 65536 : Nat) : Int) := by
    show _ = ((a * 2 % 65536 : Nat) : Int)
    simp only [IntKind.wrap,IntKind.bits,IntKind.signed]
    simp
  simp [dBin,IntKind.bits,this]
theorem d_sh8 {a : Nat} (ha : a < 256) : dBin .shl (.int .u16 (a : Int)) (.int .u64 8) = some (.int .u16 ((Nat.mul a 256 : Nat) : Int)) := by
  have : IntKind.u16.wrap ((a : Int) * 256) = ((Nat.mul a 256 : Nat) : Int) := by
    have := w16 (z := a * 256) (by omega)
    show _ = ((a * 256 : Nat) : Int)
    rw [← this]; simp
  simp [dBin,IntKind.bits,this]
theorem c_sstep {w0 : World} {m : Mem} {r : Nat} {Q : Value → Mem → Prop} (hr : r < 65536) (hq : Q (.int .u16 (stepN r : Nat)) m) : AbC Tryz.prog w0 176 [.int .u16 (r : Int)] m Q := by
  refine AbC_fn ok176 (by simp) ?_
  simp -implicitDefEqProofs (disch := first | assumption | (simp only [wnA]; done) | (simp only [wnA]; omega) | omega) [rc176,ro176,wkA,rtZ,sbZ,dC,ev,fiZ,pkZ,putAt,bnd,slD,gZ0,gZ1,dR_sl,Mem.cell,Mem.row,wmA]
  refine LoopW_of (fun k ts m' => ∃ j,j + k = 8 ∧ m' = m ∧ ts 0 = .int .u16 (itS j r : Nat) ∧ ts 4 = .int .i64 (j : Nat)) 8 ?_ ?_
  · exact ⟨0,by omega,rfl,by simp [frA_at,itS],by simp⟩
  · rintro k ts m1 K ⟨j,hj,rfl,t0,t4⟩ hK
    by_cases hjl : j < 8
    · have hlt := itS_lt hr j
      have q1 : dBin .and (.int .u16 (itS j r : Nat)) (.int .u16 32768) = some (.int .u16 ((Nat.land (itS j r) 32768 : Nat) : Int)) := d_and hlt (b := 32768) (by omega)
      have q2 := d_sh1 (a := itS j r)
      have q3 := d_xor (a := Nat.mod (Nat.mul (itS j r) 2) 65536) (Nat.mod_lt _ (by omega)) (b := 4129) (by omega)
      have hn : ∀ ts' : Fr,ts' 0 = .int .u16 (st1 (itS j r) : Nat) → ts' 4 = .int .i64 ((j : Int) + 1) → K ts' m1 := fun ts' r0 r4 => hK (k - 1) ts' m1 (by omega) ⟨j + 1,by omega,rfl,r0,by rw [r4]; rfl⟩
      have hj8 : (j : Int) < 8 := by omega
      have w1 : IntKind.i64.wrap ((j : Int) + 1) = (j : Int) + 1 := w64 (by omega)
      unfold st1 at hn
      generalize itS j r = z at *
      have q4 : (((Nat.land z 32768 : Nat) : Int) != 0) = !Nat.beq (Nat.land z 32768) 0 := by
        cases hb : Nat.beq (Nat.land z 32768) 0 with
        | true => have := Nat.eq_of_beq_eq_true hb; rw [this]; rfl
        | false => have := Nat.ne_of_beq_eq_false hb; simpa using this
      generalize Nat.land z 32768 = z1 at *
      generalize Nat.mod (Nat.mul z 2) 65536 = z2 at *
      cases hb : Nat.beq z1 0 with
      | true =>
        rw [hb] at q4 hn
        have q4 : ((z1 : Int) != 0) = false := q4
        have hn : ∀ ts' : Fr,ts' 0 = .int .u16 (z2 : Nat) → ts' 4 = .int .i64 ((j : Int) + 1) → K ts' m1 := hn
        simp -implicitDefEqProofs (disch := first | assumption | (simp only [wnA]; done) | (simp only [wnA]; omega) | omega) [rc176_1,rc176_0,wkA,rtZ,sbZ,dC,ev,fiZ,pkZ,putAt,bnd,slD,gZ0,gZ1,dR_sl,Mem.cell,Mem.row,wmA,t0,t4,hj8,q1,q2,q4,w1]
        refine hn _ ?_ ?_
        · first | rfl | assumption | simp
        · first | rfl | assumption | simp
      | false =>
        rw [hb] at q4 hn
        have q4 : ((z1 : Int) != 0) = true := q4
        have hn : ∀ ts' : Fr,ts' 0 = .int .u16 (Nat.xor z2 4129 : Nat) → ts' 4 = .int .i64 ((j : Int) + 1) → K ts' m1 := hn
        have q3 : dBin .xor (.int .u16 (z2 : Int)) (.int .u16 4129) = some (.int .u16 ((Nat.xor z2 4129 : Nat) : Int)) := q3
        generalize Nat.xor z2 4129 = z3 at *
        simp only [dBin_xor] at q3
        have q3 : xorK .u16 (z2 : Int) 4129 = (z3 : Int) := by injection q3 with q3; injection q3
        simp -implicitDefEqProofs (disch := first | assumption | (simp only [wnA]; done) | (simp only [wnA]; omega) | omega) [rc176_1,rc176_0,wkA,rtZ,sbZ,dC,ev,fiZ,pkZ,putAt,bnd,slD,gZ0,gZ1,dR_sl,Mem.cell,Mem.row,wmA,t0,t4,hj8,q1,q2,q4,q3,w1]
        refine hn _ ?_ ?_
        · first | rfl | assumption | simp
        · first | rfl | assumption | simp
    · have hjj : j = 8 := by omega
      subst hjj
      simp -implicitDefEqProofs (disch := first | assumption | (simp only [wnA]; done) | (simp only [wnA]; omega) | omega) [rc176_1,rc176_2,wkA,rtZ,sbZ,dC,ev,fiZ,pkZ,putAt,bnd,slD,gZ0,gZ1,dR_sl,Mem.cell,Mem.row,wmA,t0,t4]
      exact hq
theorem crcN_take {l : List UInt8} {j : Nat} (hj : j < l.length) : (l.take (j + 1)).foldl (fun r c => stepN (Nat.xor r (Nat.mul c.toNat 256))) 0 = stepN (Nat.xor ((l.take j).foldl (fun r c => stepN (Nat.xor r (Nat.mul c.toNat 256))) 0) (Nat.mul (l[j]).toNat 256)) := by
  rw [List.take_add_one,List.getElem?_eq_getElem hj,List.foldl_append]; rfl
theorem foldlt : ∀ (l : List UInt8) {r : Nat},r < 65536 → l.foldl (fun r c => stepN (Nat.xor r (Nat.mul c.toNat 256))) r < 65536
  | [],_,h => h
  | c :: l,r,h => foldlt l (stepN_lt (xor16 h (by have := c.toNat_lt; show c.toNat * 256 < 65536; omega)))
theorem crcN_lt (l : List UInt8) : crcN l < 65536 := foldlt l (by omega)
theorem chkN_take {l : List UInt8} {j : Nat} (hj : j < l.length) : chkN (l.take (j + 1)) = (chkN (l.take j) + (l[j]).toNat) % 256 := by
  unfold chkN
  rw [List.take_add_one,List.getElem?_eq_getElem hj,List.foldl_append]; rfl
theorem chkN_lt (l : List UInt8) : chkN l < 256 := by
  have : ∀ (l : List UInt8) {r : Nat},r < 256 → l.foldl (fun r c => (r + c.toNat) % 256) r < 256 := by
    intro l
    induction l with
    | nil => intro r h; exact h
    | cons c l ih => intro r h; exact ih (Nat.mod_lt _ (by omega))
  exact this l (by omega)
theorem c_Crc {w0 : World} {m : Mem} {v : Value} {l : List UInt8} {Q : Value → Mem → Prop} (hv : SlR m 1 v (l.map byteV) l.length) (hL : l.length ≤ maxLen) (hq : Q (.int .u16 (crcN l : Nat)) m) : AbC Tryz.prog w0 175 [v] m Q := by
  refine AbC_fn ok175 (by simp) ?_
  have hlen : lenV v = l.length := hv.lenV
  have hL : l.length ≤ 9223372036854775807 := by unfold maxLen at hL; omega
  simp -implicitDefEqProofs (disch := first | assumption | (simp only [wnA]; done) | (simp only [wnA]; omega) | omega) [rc175,ro175,wkA,rtZ,sbZ,dC,ev,fiZ,pkZ,putAt,bnd,slD,gZ0,gZ1,dR_sl,Mem.cell,Mem.row,wmA,hv.slen]
  refine LoopW_of (fun k ts m' => ∃ j,j + k = l.length ∧ m' = m ∧ ts 6 = v ∧ ts 7 = .int .i64 (l.length : Nat) ∧ ts 8 = .int .i64 (j : Nat) ∧ ts 3 = .int .u16 ((l.take j).foldl (fun r c => stepN (Nat.xor r (Nat.mul c.toNat 256))) 0 : Nat)) l.length ?_ ?_
  · exact ⟨0,by omega,rfl,by simp [frA_at],by simp,by simp,by simp⟩
  · rintro k ts m1 K ⟨j,hj,rfl,t6,t7,t8,t3⟩ hK
    by_cases hjl : j < l.length
    · have hj8 : (j : Int) < (l.length : Nat) := by omega
      obtain ⟨i,o,L,e1,e2,e3,e4,e5⟩ := hv.at hjl
      have hc : L[o + j * 1]? = some (.int .u8 ((l[j]).toNat : Int)) := by
        have := e5 0 (by omega)
        simpa [hjl,byteV] using this
      have hc := getL1 (by rw [Nat.mul_one] at hc; exact hc : L[o + j]? = _)
      have hidx : sidx 1 v (.int .i64 (j : Int)) = some (.pointer (some ⟨i,o + j * 1,none⟩)) := by rw [e1]; exact sidx_at hjl
      have w1 : IntKind.i64.wrap ((j : Int) + 1) = (j : Int) + 1 := w64 (by omega)
      have hcl := (l[j]).toNat_lt
      have q1 := d_sh8 (a := (l[j]).toNat) (by omega)
      have hr : (l.take j).foldl (fun r c => stepN (Nat.xor r (Nat.mul c.toNat 256))) 0 < 65536 := foldlt _ (by omega)
      have hn := crcN_take hjl
      have hx : Nat.mul (l[j]).toNat 256 < 65536 := by show (l[j]).toNat * 256 < 65536; omega
      have q2 := d_xor hr hx
      have wc : IntKind.u16.wrap ((l[j]).toNat : Int) = ((l[j]).toNat : Int) := w16 (by omega)
      generalize Nat.mul (l[j]).toNat 256 = x at *
      generalize (l.take j).foldl (fun r c => stepN (Nat.xor r (Nat.mul c.toNat 256))) 0 = r at *
      have hs := xor16 hr hx
      simp only [dBin_xor] at q2
      have q2 : xorK .u16 (r : Int) (x : Int) = (Nat.xor r x : Nat) := by injection q2 with q2; injection q2
      generalize Nat.xor r x = y at *
      simp -implicitDefEqProofs (disch := first | assumption | (simp only [wnA]; done) | (simp only [wnA]; omega) | omega) [rc175_1,rc175_0,wkA,rtZ,sbZ,dC,ev,fiZ,pkZ,putAt,bnd,slD,gZ0,gZ1,dR_sl,Mem.cell,Mem.row,wmA,t6,t7,t8,t3,hj8,hidx,e2,hc,q1,q2,w1,wc]
      refine c_sstep hs ?_
      simp -implicitDefEqProofs (disch := first | assumption | (simp only [wnA]; done) | (simp only [wnA]; omega) | omega) [wkA,rtZ,sbZ,dC,ev,fiZ,pkZ,putAt,bnd,slD,gZ0,gZ1,dR_sl,Mem.cell,Mem.row,wmA,t8,w1]
      refine hK (k - 1) _ _ (by omega) ⟨j + 1,by omega,rfl,by first | exact t6 | simp [t6],by first | exact t7 | simp [t7],by first | rfl | simp,?_⟩
      rw [hn]; first | rfl | simp
    · have hjj : j = l.length := by omega
      subst hjj
      have hj8 : ¬ ((l.length : Nat) : Int) < (l.length : Nat) := by omega
      rw [List.take_length] at t3
      simp -implicitDefEqProofs (disch := first | assumption | (simp only [wnA]; done) | (simp only [wnA]; omega) | omega) [rc175_1,rc175_2,wkA,rtZ,sbZ,dC,ev,fiZ,pkZ,putAt,bnd,slD,gZ0,gZ1,dR_sl,Mem.cell,Mem.row,wmA,t3,t7,t8,hj8]
      exact hq
theorem c_Chk {w0 : World} {m : Mem} {v : Value} {l : List UInt8} {Q : Value → Mem → Prop} (hv : SlR m 1 v (l.map byteV) l.length) (hL : l.length ≤ maxLen) (hq : Q (.int .u8 (chkN l : Nat)) m) : AbC Tryz.prog w0 174 [v] m Q := by
  refine AbC_fn ok174 (by simp) ?_
  have hlen : lenV v = l.length := hv.lenV
  have hL : l.length ≤ 9223372036854775807 := by unfold maxLen at hL; omega
  simp -implicitDefEqProofs (disch := first | assumption | (simp only [wnA]; done) | (simp only [wnA]; omega) | omega) [rc174,ro174,wkA,rtZ,sbZ,dC,ev,fiZ,pkZ,putAt,bnd,slD,gZ0,gZ1,dR_sl,Mem.cell,Mem.row,wmA,hv.slen]
  refine LoopW_of (fun k ts m' => ∃ j,j + k = l.length ∧ m' = m ∧ ts 6 = v ∧ ts 7 = .int .i64 (l.length : Nat) ∧ ts 8 = .int .i64 (j : Nat) ∧ ts 3 = .int .u8 (chkN (l.take j) : Nat)) l.length ?_ ?_
  · exact ⟨0,by omega,rfl,by simp [frA_at],by simp,by simp,by simp [chkN]⟩
  · rintro k ts m1 K ⟨j,hj,rfl,t6,t7,t8,t3⟩ hK
    by_cases hjl : j < l.length
    · have hj8 : (j : Int) < (l.length : Nat) := by omega
      obtain ⟨i,o,L,e1,e2,e3,e4,e5⟩ := hv.at hjl
      have hc : L[o + j * 1]? = some (.int .u8 ((l[j]).toNat : Int)) := by
        have := e5 0 (by omega)
        simpa [hjl,byteV] using this
      have hc := getL1 (by rw [Nat.mul_one] at hc; exact hc : L[o + j]? = _)
      have hidx : sidx 1 v (.int .i64 (j : Int)) = some (.pointer (some ⟨i,o + j * 1,none⟩)) := by rw [e1]; exact sidx_at hjl
      have w1 : IntKind.i64.wrap ((j : Int) + 1) = (j : Int) + 1 := w64 (by omega)
      have hcl := (l[j]).toNat_lt
      have wc : IntKind.u8.wrap ((chkN (l.take j) : Int) + ((l[j]).toNat : Int)) = (((chkN (l.take j) + (l[j]).toNat) % 256 : Nat) : Int) := by
        simp only [IntKind.wrap,IntKind.bits,IntKind.signed]
        simp
      have hn := chkN_take hjl
      generalize (chkN (l.take j) + (l[j]).toNat) % 256 = r2 at *
      generalize chkN (l.take j) = r at *
      simp -implicitDefEqProofs (disch := first | assumption | (simp only [wnA]; done) | (simp only [wnA]; omega) | omega) [rc174_1,rc174_0,wkA,rtZ,sbZ,dC,ev,fiZ,pkZ,putAt,bnd,slD,gZ0,gZ1,dR_sl,Mem.cell,Mem.row,wmA,t6,t7,t8,t3,hj8,hidx,e2,hc,w1,wc]
      refine hK (k - 1) _ _ (by omega) ⟨j + 1,by omega,rfl,by first | exact t6 | simp [t6],by first | exact t7 | simp [t7],by first | rfl | simp,?_⟩
      rw [hn]; first | rfl | simp
    · have hjj : j = l.length := by omega
      subst hjj
      have hj8 : ¬ ((l.length : Nat) : Int) < (l.length : Nat) := by omega
      rw [List.take_length] at t3
      simp -implicitDefEqProofs (disch := first | assumption | (simp only [wnA]; done) | (simp only [wnA]; omega) | omega) [rc174_1,rc174_2,wkA,rtZ,sbZ,dC,ev,fiZ,pkZ,putAt,bnd,slD,gZ0,gZ1,dR_sl,Mem.cell,Mem.row,wmA,t3,t7,t8,hj8]
      exact hq
end Go.Proofs.YtccjlggpiliilaaGreatDoor.Ab

set_option linter.unusedVariables false
set_option linter.unusedSimpArgs false
namespace Go.Proofs.YtccjlggpiliilaaGreatDoor.Ab
open Go Go.RowKit
def ieqW (neg : Bool) (tt : List TypeId) (a b : Value) : Option Value := if bothNil a b = true then none else match dEq (.iface tt) a b with
  | some r => some (.bool (if neg then !r else r))
  | none => none
theorem dR_ieq {ts : Fr} {m : Mem} {neg : Bool} {tt : List TypeId} {x y : Operand} : dR ts m (.ieq neg tt x y) = ieqW neg tt (ev ts x) (ev ts y) := by
  unfold ieqW
  rw [dR]
  rfl
theorem ieqW_ii {neg : Bool} {l : List TypeId} {t : TypeId} {k : IntKind} {a b : Int} : ieqW neg l (.iface t (.int k a)) (.iface t (.int k b)) = if l.contains t = true then some (.bool (if neg then !(a == b) else (a == b))) else none := by
  by_cases h : t ∈ l <;> simp [ieqW,bothNil,dEq,h]
theorem ieqW_nl {neg : Bool} {l : List TypeId} {t : TypeId} {v : Value} : ieqW neg l .nilIface (.iface t v) = some (.bool neg) := by
  cases neg <;> simp [ieqW,dEq]
end Go.Proofs.YtccjlggpiliilaaGreatDoor.Ab
