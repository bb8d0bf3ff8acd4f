/- More operations that look: pointers without a type, where a slice's bytes lie, what an interface holds, a number as a text. -/
import Derived.Test.YtgfkjldohilmkaaDoorAb6
import Derived.Lib.Builder
import Derived.Lib.UnsafeStr
import Derived.WideLaws
set_option linter.unusedVariables false
set_option linter.unusedSimpArgs false
namespace Go.Proofs.YtgfkjldohilmkaaDoor.Ab
open Go Go.RowKit

def intTs (P : Program) : List TypeId := (List.range P.types.size).filter fun u => (match P.info? u with | some i => i.comparable | none => false) && (match P.underlying u with | some (.int _) => true | _ => false)

def resR2 (P : Program) (N : Nat) (o : Oper) : Option RO :=
  if o.op.operands.all (okX P N) then
    match o.op with
    | .convert s t x => match P.underlying s, P.underlying t with
      | some (.pointer e), some .unsafePointer => match P.info? e with
        | some j => if j.size = 0 then none else some (.cvp x)
        | none => none
      | some .unsafePointer, some (.pointer u) => match P.info? u with
        | some j => if j.size = 0 then none else some (.cvu u j.size x)
        | none => none
      | some (.int _), some .string => some (.i2s x)
      | _, _ => none
    | .binOp op t x y _ =>
      if op == .eql || op == .neq then
        match P.underlying t with
        | some (.interface _) => if eqOk P 9 (.iface (intTs P)) t then some (.ieq (op == .neq) (intTs P) x y) else none
        | _ => none
      else none
    | .typeAssert x xt t ok => match P.underlying t with
      | some (.interface _) => none
      | some _ => match P.info? t with
        | some i => match i.zero with
          | some z => if plainV 6 z then some (.tas t z ok x) else none
          | none => none
        | none => none
      | none => none
    | .lookup xt x i ok => match P.underlying xt with
      | some (.map k e) => match P.info? e with
        | some j => match j.zero with
          | some z => if plainV 6 z then (match P.underlying k with
            | some (.int _) => some (.lku false ok z x i)
            | some .string => some (.lku true ok z x i)
            | _ => none) else none
          | none => none
        | none => none
      | _ => none
    | .call { callee := .builtin .cap, args, argTypes } => match args.toList, argTypes.toList with
      | [x], [t] => match P.underlying t with
        | some (.slice _) => some (.capn x)
        | _ => none
      | _, _ => none
    | .call { callee := .builtin .unsafeSliceData, args, .. } => match args.toList with
      | [x] => some (.usd x)
      | _ => none
    | _ => none
  else none

section
variable {P : Program} {w0 w : World} {G : Loc} {m : Mem}

theorem liesAt_at {e : TypeId} (count off n : Nat) (hz : P.cellsOf e ≠ 0) (hr : off % P.cellsOf e = 0) (hn : off / P.cellsOf e + n ≤ count) : liesAt P P.depth e count off e n = true := by
  have hd : P.depth = (2 * (P.types.size + Made.depth) + 1) + 1 := rfl
  rw [hd]
  simp only [liesAt, Bool.or_eq_true]
  left
  rw [hd]
  simp [rowAt, hz, hr, hn, sameLayout]

/-- The real block of an own one. -/
theorem own_real (hs : St P w0 G m w) {i B b S : Nat} {cs : List Value} {e : TypeId} (hg : G i = some (B, b, S)) (h : m.get i = .own cs e) :
    ∃ c fz, w.heap[B]? = some (.cells c e fz) ∧ (∀ (j : Nat) (v : Value), cs[j]? = some v → ∃ v', c[b + j]? = some v' ∧ VR G v v') ∧ (0 < cs.length → b + cs.length ≤ c.size) := by
  obtain ⟨B', b', S', g', r⟩ := hs.ent i (by rw [h]; simp)
  rw [hg] at g'
  cases g'
  rw [h] at r
  obtain ⟨h0, c, fz, h1, h2, h3, h4⟩ := r
  refine ⟨c, fz, h1, h4, fun hp => ?_⟩
  obtain ⟨v', hv, _⟩ := h4 (cs.length - 1) cs[cs.length - 1] (by simp)
  have := (Array.getElem?_eq_some_iff.1 hv).1
  omega

theorem snd_cvp {N : Nat} {ts : Fr} {a : Act} (ha : AR G N ts a) (hs : St P w0 G m w) {s t e : TypeId} {j : TypeInfo} (h1 : P.underlying s = some (.pointer e)) (h2 : P.underlying t = some .unsafePointer) (hj : P.info? e = some j) (hz : j.size ≠ 0) {x : Operand} (hx : okX P N x = true) {v : Value}
    (h : dR ts m (.cvp x) = some v) : ∃ v', (convert s t (a.eval x)).run P w = .ok v' w ∧ VR G v v' := by
  have vx := ev_VR ha hs x hx
  simp only [dR] at h
  split at h
  · rename_i hq
    rw [hq] at vx
    simp at h; subst h
    generalize a.eval x = X at *
    cases vx
    exact ⟨.pointer none, by simp [convert, run_underlying h1, run_underlying h2, Conv.unsafePointer], .nilp⟩
  · rename_i i o hq
    rw [hq] at vx
    split at h
    case h_2 => cases h
    rename_i cs e' hown
    split at h
    case isFalse => cases h
    rename_i hlt
    simp at h; subst h
    generalize a.eval x = X at *
    cases vx with
    | ptr _ _ B b S hg =>
      obtain ⟨c, fz, hw, hc, hl⟩ := own_real hs hg hown
      have hl := hl (by omega)
      have hsh : w.shape? B = some (e', c.size) := by simp [World.shape?, hw]
      exact ⟨_, Lib.run_to_unsafe (P := P) w ⟨B, b + o, none⟩ h1 h2 hj hz hsh (by show b + o < c.size; omega), .ptr _ _ _ _ _ hg⟩
  · cases h

theorem snd_cvu {N : Nat} {ts : Fr} {a : Act} (ha : AR G N ts a) (hs : St P w0 G m w) {s t u : TypeId} {j : TypeInfo} (h1 : P.underlying s = some .unsafePointer) (h2 : P.underlying t = some (.pointer u)) (hj : P.info? u = some j) (hz : j.size ≠ 0) {x : Operand} (hx : okX P N x = true) {v : Value}
    (h : dR ts m (.cvu u j.size x) = some v) : ∃ v', (convert s t (a.eval x)).run P w = .ok v' w ∧ VR G v v' := by
  have vx := ev_VR ha hs x hx
  have hcu : P.cellsOf u = j.size := by simp [Program.cellsOf, hj]
  simp only [dR] at h
  split at h
  · rename_i hq
    rw [hq] at vx
    simp at h; subst h
    generalize a.eval x = X at *
    cases vx
    exact ⟨.pointer none, by simp [convert, run_underlying h1, run_underlying h2, Conv.unsafePointer], .nilp⟩
  · rename_i i o hq
    rw [hq] at vx
    split at h
    case h_2 => cases h
    rename_i cs e' hown
    split at h
    case isFalse => cases h
    rename_i hcond
    obtain ⟨rfl, hom, hle⟩ := hcond
    simp at h; subst h
    generalize a.eval x = X at *
    cases vx with
    | ptr _ _ B b S hg =>
      obtain ⟨c, fz, hw, hc, hl⟩ := own_real hs hg hown
      have hl := hl (by omega)
      have hal := hs.ali _ _ _ _ _ _ hown hg
      have hsh : w.shape? B = some (e', c.size) := by simp [World.shape?, hw]
      have hmod : (b + o) % j.size = 0 := by rw [hcu] at hal; rw [Nat.add_mod, hal, hom]; simp
      have hlies : liesAt P P.depth e' (c.size / P.cellsOf e') (b + o) e' 1 = true := by
        refine liesAt_at _ _ _ (by rw [hcu]; exact hz) (by rw [hcu]; exact hmod) ?_
        rw [hcu]
        have hd : (b + o) / j.size * j.size = b + o := Nat.div_mul_cancel (Nat.dvd_of_mod_eq_zero hmod)
        rw [Nat.le_div_iff_mul_le (by omega), Nat.add_mul, hd]
        omega
      exact ⟨_, Lib.run_from_unsafe (P := P) w ⟨B, b + o, none⟩ h1 h2 hj hsh hlies, .ptr _ _ _ _ _ hg⟩
  · cases h

theorem snd_usd {N : Nat} {ts : Fr} {a : Act} (ha : AR G N ts a) (hs : St P w0 G m w) {ats : Array TypeId} {ty : TypeId} {x : Operand} (hx : okX P N x = true) {v : Value}
    (h : dR ts m (.usd x) = some v) : ∃ v', (Builtin.unsafeSliceData_ ats ty #[a.eval x]).run P w = .ok v' w ∧ VR G v v' := by
  have vx := ev_VR ha hs x hx
  simp only [dR] at h
  split at h
  · rename_i n c hq
    rw [hq] at vx
    simp at h; subst h
    generalize a.eval x = X at *
    cases vx
    exact ⟨.pointer none, rfl, .nilp⟩
  · rename_i i o n c hq
    rw [hq] at vx
    split at h
    case isFalse => cases h
    rename_i hlt
    simp at h; subst h
    generalize a.eval x = X at *
    cases vx with
    | sl _ _ B b S _ cp _ hg hn hc hS =>
      exact ⟨_, Lib.run_unsafeSliceData_row (P := P) w ats ty ⟨B, b + o, none⟩ n cp (by omega), .ptr _ _ _ _ _ hg⟩
  · cases h

/-! Maps whose keys are numbers or texts. -/
def kdIs (str : Bool) (d : TypeDesc) : Prop := if str = true then d = .string else ∃ k, d = .int k
theorem keyIs_snd {str b : Bool} {d : TypeDesc} (hd : kdIs str d) {x y x' y' : Value} (h : keyIs str x y = some b) (hx : VR G x x') (hy : VR G y y') : Instr.sameNow d x' y' = some b ∧ x' = x ∧ (b = true → x' = y') ∧ flatV x = true := by
  unfold keyIs at h
  split at h
  · split at h
    case isFalse => cases h
    rename_i hc
    obtain ⟨rfl, rfl⟩ := hc
    cases hx; cases hy
    simp only [kdIs, Bool.false_eq_true, if_false] at hd
    obtain ⟨k, rfl⟩ := hd
    simp at h
    refine ⟨by simp [Instr.sameNow, h], rfl, fun hb => ?_, rfl⟩
    rw [hb] at h
    simp at h; rw [h]
  · split at h
    case isFalse => cases h
    rename_i hc
    subst hc
    cases hx; cases hy
    simp only [kdIs, if_true] at hd
    subst hd
    rename_i s t
    simp only [Option.some.injEq] at h
    have e : (s == t) = (s.data.toList == t.data.toList) := by
      have e0 : (s == t) = (s.data == t.data) := rfl
      rw [e0, Bool.eq_iff_iff, beq_iff_eq, beq_iff_eq]
      exact Array.toList_inj.symm
    refine ⟨by simp only [Instr.sameNow, e, h], rfl, fun hb => ?_, rfl⟩
    rw [hb] at h
    have h9 := beq_iff_eq.1 h
    have : s = t := by apply ByteArray.ext; exact Array.toList_inj.1 h9
    rw [this]
  · cases h
theorem mapFind_snd {str : Bool} {d : TypeDesc} (hd : kdIs str d) {k k' : Value} (hk : VR G k k') : ∀ (es es' : List MapEntry) (i : Nat) (r : Option (Nat × Value)), VRs G (es.map (·.key)) (es'.map (·.key)) → VRs G (es.map (·.val)) (es'.map (·.val)) → mapFind str k es i = some r →
    (r = none ∧ Instr.findNow d k' es' i = some none) ∨ ∃ j v v' e', r = some (i + j, v) ∧ Instr.findNow d k' es' i = some (some (i + j, v')) ∧ VR G v v' ∧ es'[j]? = some e' ∧ e'.key = k' ∧ flatV k = true
  | [], [], i, r, _, _, h => by
    simp [mapFind] at h; subst h
    exact .inl ⟨rfl, rfl⟩
  | [], _ :: _, i, r, hks, _, _ => by cases hks
  | _ :: _, [], i, r, hks, _, _ => by cases hks
  | e :: es, e' :: es', i, r, hks, hvs, h => by
    simp only [List.map_cons] at hks hvs
    cases hks with
    | cons _ _ _ _ hk1 hks =>
    cases hvs with
    | cons _ _ _ _ hv1 hvs =>
    simp only [mapFind] at h
    split at h
    · rename_i hq
      obtain ⟨a1, a2, a3, a4⟩ := keyIs_snd hd hq hk hk1
      simp at h; subst h
      exact .inr ⟨0, e.val, e'.val, e', rfl, by simp [Instr.findNow, a1], hv1, rfl, (a3 rfl).symm, a4⟩
    · rename_i hq
      obtain ⟨a1, a2, _, _⟩ := keyIs_snd hd hq hk hk1
      rcases mapFind_snd hd hk es es' (i + 1) r hks hvs h with ⟨h1, h2⟩ | ⟨j, v, v', e2, h1, h2, h3, h4, h5, h6⟩
      · exact .inl ⟨h1, by simp [Instr.findNow, a1, h2]⟩
      · exact .inr ⟨j + 1, v, v', e2, by rw [h1]; congr 2; omega, by simp only [Instr.findNow, a1, h2]; congr 3; omega, h3, by simpa using h4, h5, h6⟩
    · cases h
theorem map_get (hs : St P w0 G m w) {i : Nat} {es : List MapEntry} {cl : Nat} (h : m.get i = .map es cl) {B S : Nat} (hg : G i = some (B, 0, S)) :
    ∃ es' : List MapEntry, w.heap[B]? = some (.map es'.toArray cl) ∧ es'.map (·.born) = es.map (·.born) ∧ VRs G (es.map (·.key)) (es'.map (·.key)) ∧ VRs G (es.map (·.val)) (es'.map (·.val)) := by
  obtain ⟨B', b', S', g', r⟩ := hs.ent i (by rw [h]; simp)
  rw [hg] at g'
  cases g'
  rw [h] at r
  exact r.2.2
theorem checkKey_kd1 {str : Bool} {kt : TypeId} {d : TypeDesc} (hu : P.underlying kt = some d) (hd : kdIs str d) (b : Bool) (v : Value) (n : Nat) : (Instr.checkKey b (n + 1) kt v).run P w = .ok () w := by
  unfold kdIs at hd
  split at hd
  · subst hd; simp [Instr.checkKey, run_underlying hu]
  · obtain ⟨k, rfl⟩ := hd; simp [Instr.checkKey, run_underlying hu]
theorem checkKey_kd {str : Bool} {kt : TypeId} {d : TypeDesc} (hu : P.underlying kt = some d) (hd : kdIs str d) (b : Bool) (v : Value) : (Instr.checkKey b 10000 kt v).run P w = .ok () w := checkKey_kd1 hu hd b v 9999
theorem findKey_kd {str : Bool} {kt : TypeId} {d : TypeDesc} (hu : P.underlying kt = some d) {k : Value} {es : List MapEntry} {r : Option (Nat × Value)} (h : Instr.findNow d k es 0 = some r) : (Instr.findKey kt k es).run P w = .ok r w := by
  simp [Instr.findKey, run_underlying hu, h]
theorem snd_lku {N : Nat} {ts : Fr} {a : Act} (ha : AR G N ts a) (hs : St P w0 G m w) {str ok : Bool} {mt kt e : TypeId} {d : TypeDesc} {j : TypeInfo} {z : Value} (hm : P.underlying mt = some (.map kt e)) (hu : P.underlying kt = some d) (hd : kdIs str d) (hj : P.info? e = some j) (hz : j.zero = some z) (hp : plainV 6 z = true)
    {x y : Operand} (hx : okX P N x = true) (hy : okX P N y = true) {v : Value} (h : dR ts m (.lku str ok z x y) = some v) : ∃ v', (Instr.lookup mt (a.eval x) (a.eval y) ok).run P w = .ok v' w ∧ VR G v v' := by
  have vx := ev_VR ha hs x hx
  have vy := ev_VR ha hs y hy
  have vz := VR.plain (G := G) 6 z hp
  simp only [dR] at h
  generalize a.eval x = X at *
  generalize a.eval y = Y at *
  have tup : ∀ {u u' : Value} {b : Bool}, VR G u u' → VR G (if ok = true then Value.tuple ⟨[u, .bool b]⟩ else u) (if ok = true then Value.tuple #[u', .bool b] else u') := by
    intro u u' b hu'
    cases ok
    · exact hu'
    · exact .tuple _ _ (.cons _ _ _ _ hu' (.cons _ _ _ _ (.bool b) .nil))
  split at h
  · rename_i hq
    rw [hq] at vx
    simp at h; subst h
    cases vx
    refine ⟨_, ?_, tup (b := false) vz⟩
    have hc := checkKey_kd (P := P) (w := w) hu hd true Y
    have hf := findKey_kd (str := str) (P := P) (w := w) hu (k := Y) (es := []) (r := none) rfl
    simp [Instr.lookup, run_underlying hm, hc, hf, zeroValue, typeInfo, hj, hz]
  · rename_i r hq
    rw [hq] at vx
    split at h
    case h_2 => cases h
    rename_i es cl hr
    cases vx with
    | map _ B S hg =>
    obtain ⟨es', h1, h2, h3, h4⟩ := map_get hs hr hg
    have hc := checkKey_kd (P := P) (w := w) hu hd es'.isEmpty Y
    have hgo : (getObj B).run P w = .ok (.map es'.toArray cl) w := by simp [getObj, Sem.run, h1]
    split at h
    · rename_i i v1 hf
      simp at h; subst h
      rcases mapFind_snd hd vy es es' 0 _ h3 h4 hf with ⟨e1, _⟩ | ⟨j', v2, v', e', e1, e2, e3, _⟩
      · cases e1
      · simp at e1
        obtain ⟨rfl, rfl⟩ := e1
        have hf' := findKey_kd (str := str) (P := P) (w := w) hu e2
        refine ⟨_, ?_, tup (b := true) e3⟩
        simp [Instr.lookup, run_underlying hm, hgo, hc, hf']
    · rename_i hf
      simp at h; subst h
      rcases mapFind_snd hd vy es es' 0 _ h3 h4 hf with ⟨e1, e2⟩ | ⟨j', v2, v', e', e1, e2, e3, _⟩
      · have hf' := findKey_kd (str := str) (P := P) (w := w) hu e2
        refine ⟨_, ?_, tup (b := false) vz⟩
        simp [Instr.lookup, run_underlying hm, hgo, hc, hf', zeroValue, typeInfo, hj, hz]
      · cases e1
    · cases h
  · cases h

theorem resR2_snd {N : Nat} {ts : Fr} {a : Act} {o : Oper} {r : RO} {v : Value} (hr : resR2 P N o = some r) (ha : AR G N ts a) (hs : St P w0 G m w) (hd : dR ts m r = some v) :
    ∃ v', (execOp a.eval o).run P w = .ok (.value v') w ∧ VR G v v' := by
  obtain ⟨dst, op, ty, pos, after, guard⟩ := o
  unfold resR2 at hr
  split at hr
  case isFalse => cases hr
  rename_i hok0
  have hok := okX_of hok0
  clear hok0
  have hE : ∀ x, okX P N x = true → VR G (ev ts x) (a.eval x) := fun x hx => ev_VR ha hs x hx
  cases op <;> simp only [Op.operands] at hok hr <;> try (cases hr; done)
  case convert s t x =>
    have hx := hok x (by simp)
    split at hr
    · rename_i e h1 h2
      split at hr
      case h_2 => cases hr
      rename_i j hj
      split at hr
      case isTrue => cases hr
      rename_i hz
      simp at hr; subst hr
      obtain ⟨v', h3, h4⟩ := snd_cvp ha hs h1 h2 hj hz hx hd
      exact ⟨v', by simp [execOp, h3], h4⟩
    · rename_i u h1 h2
      split at hr
      case h_2 => cases hr
      rename_i j hj
      split at hr
      case isTrue => cases hr
      rename_i hz
      simp at hr; subst hr
      obtain ⟨v', h3, h4⟩ := snd_cvu ha hs h1 h2 hj hz hx hd
      exact ⟨v', by simp [execOp, h3], h4⟩
    · rename_i k h1 h2
      simp at hr; subst hr
      have vx := hE x hx
      simp only [dR] at hd
      split at hd
      · rename_i q n he
        rw [he] at vx; simp at hd; subst hd
        refine ⟨.string (Utf8.encode n), ?_, .str _⟩
        simp only [execOp]
        generalize a.eval x = z at vx
        cases vx
        simp [convert, run_underlying h1, run_underlying h2, Conv.intToString]
      · cases hd
    · cases hr
  case binOp op t x y yt =>
    split at hr
    case isFalse => cases hr
    rename_i hop
    split at hr
    case h_2 => cases hr
    rename_i ms hu
    split at hr
    case isFalse => cases hr
    rename_i hc
    simp at hr; subst hr
    have hx := hE x (hok x (by simp))
    have hy := hE y (hok y (by simp))
    simp only [dR] at hd
    split at hd
    case isTrue => cases hd
    rename_i hbn
    have hn : op = (if (op == BinOp.neq) then .neq else .eql) := by cases op <;> simp at hop <;> rfl
    obtain ⟨v', h5, h6⟩ := snd_eqop ha hs (op == BinOp.neq) t (.iface (intTs P)) x y (hok x (by simp)) (hok y (by simp)) hc (by rw [hu]; simp) (by rw [hu]; simp) (fun b hb => by
      rw [← hn]
      generalize ev ts x = X at *
      generalize ev ts y = Y at *
      unfold dEq at hb
      split at hb <;> first | (cases hb; done) | skip
      all_goals (try (rename_i he; cases he; done))
      · simp [bothNil] at hbn
      · generalize a.eval x = z at hx
        generalize a.eval y = z' at hy
        cases hx; cases hy
        rw [eqGuard_nil_iface]; rfl
      all_goals
        generalize a.eval x = z at hx
        generalize a.eval y = z' at hy
        cases hx; cases hy
        rw [eqGuard_at_iface]; rfl) hd
    refine ⟨v', ?_, h6⟩
    rw [← hn] at h5
    simp only [execOp]
    rw [Sem.run_bind, h5]
    rfl
  case lookup xt x i ok =>
    split at hr
    case h_2 => cases hr
    rename_i kt e hm
    split at hr
    case h_2 => cases hr
    rename_i j hj
    split at hr
    case h_2 => cases hr
    rename_i z hz
    split at hr
    case isFalse => cases hr
    rename_i hp
    split at hr
    · rename_i k hu
      simp at hr; subst hr
      obtain ⟨v', h3, h4⟩ := snd_lku ha hs hm hu (str := false) ⟨k, rfl⟩ hj hz hp (hok x (by simp)) (hok i (by simp)) hd
      exact ⟨v', by simp [execOp, h3], h4⟩
    · rename_i hu
      simp at hr; subst hr
      obtain ⟨v', h3, h4⟩ := snd_lku ha hs hm hu (str := true) rfl hj hz hp (hok x (by simp)) (hok i (by simp)) hd
      exact ⟨v', by simp [execOp, h3], h4⟩
    · cases hr
  case typeAssert x xt t ok =>
    have vx := hE x (hok x (by simp))
    split at hr
    · cases hr
    · rename_i d hnd hu
      split at hr
      case h_2 => cases hr
      rename_i i hi
      split at hr
      case h_2 => cases hr
      rename_i z hz
      split at hr
      case isFalse => cases hr
      rename_i hp
      simp at hr; subst hr
      have hzz : (zeroValue t).run P w = .ok z w := by simp [zeroValue, typeInfo, hi, hz]
      have hnd' : ∀ ms, d ≠ .interface ms := fun ms e => hnd ms e
      have zf : VR G (.tuple ⟨[z, .bool false]⟩) (.tuple #[z, .bool false]) := .tuple _ _ (.cons _ _ _ _ (VR.plain 6 z hp) (.cons _ _ _ _ (.bool false) .nil))
      simp only [dR] at hd
      split at hd
      · rename_i he
        rw [he] at vx
        split at hd
        case isFalse => cases hd
        rename_i hk
        simp at hd; subst hd
        refine ⟨_, ?_, zf⟩
        simp only [execOp]
        generalize a.eval x = X at *
        cases vx
        cases d <;> first
          | exact (hnd' _ rfl).elim
          | simp [Instr.typeAssert, run_underlying hu, hk, hzz]
      · rename_i d' v0 he
        rw [he] at vx
        split at hd
        · rename_i hdt
          simp at hd; subst hd hdt
          generalize hX : a.eval x = X at *
          cases vx with
          | iface _ _ v' hv =>
            cases ok with
            | true =>
              refine ⟨.tuple #[v', .bool true], ?_, .tuple _ _ (.cons _ _ _ _ hv (.cons _ _ _ _ (.bool true) .nil))⟩
              simp only [execOp, hX]
              cases d <;> first
                | exact (hnd' _ rfl).elim
                | simp [Instr.typeAssert, run_underlying hu]
            | false =>
              refine ⟨v', ?_, hv⟩
              simp only [execOp, hX]
              cases d <;> first
                | exact (hnd' _ rfl).elim
                | simp [Instr.typeAssert, run_underlying hu]
        · rename_i hdt
          split at hd
          case isFalse => cases hd
          rename_i hk
          simp at hd; subst hd
          refine ⟨_, ?_, zf⟩
          simp only [execOp]
          generalize a.eval x = X at *
          cases vx
          cases d <;> first
            | exact (hnd' _ rfl).elim
            | simp [Instr.typeAssert, run_underlying hu, hk, hzz, hdt]
      · cases hd
    · cases hr
  case call c =>
    obtain ⟨cal, args, argT⟩ := c
    cases cal with
    | value f => simp at hr
    | invoke r mm => simp at hr
    | builtin b =>
      simp only [Call.operands] at hok
      cases b <;> simp only [] at hr <;> first | (cases hr; done) | skip
      case cap =>
        split at hr
        case h_2 => cases hr
        rename_i x t hargs hty
        split at hr
        case h_2 => cases hr
        rename_i e hu
        obtain rfl : args = #[x] := by apply Array.ext'; simpa using hargs
        obtain rfl : argT = #[t] := by apply Array.ext'; simpa using hty
        simp at hr; subst hr
        have hx := hE x (hok x (by simp))
        simp only [dR] at hd
        split at hd
        · rename_i n c he
          rw [he] at hx; simp at hd; subst hd
          refine ⟨.int .i64 0, ?_, .int _ _⟩
          simp only [execOp, resolve, Sem.run_bind, Sem.run_pure, Result.andThen_ok, invoke, builtin, List.map_toArray, List.map_cons, List.map_nil]
          generalize a.eval x = z at hx
          cases hx
          simp [Builtin.cap_, run_underlying hu, goInt]
        · cases hd
      case unsafeSliceData =>
        split at hr
        case h_2 => cases hr
        rename_i x hargs
        obtain rfl : args = #[x] := by apply Array.ext'; simpa using hargs
        simp at hr; subst hr
        obtain ⟨v', h1, h2⟩ := snd_usd (ats := argT) (ty := ty) ha hs (hok x (by simp)) hd
        refine ⟨v', ?_, h2⟩
        simp only [execOp, resolve, Sem.run_bind, Sem.run_pure, Result.andThen_ok, invoke, builtin, List.map_toArray, List.map_cons, List.map_nil]
        rw [h1]
        rfl

def resR (P : Program) (N : Nat) (o : Oper) : Option RO := match resR1 P N o with
  | some r => some r
  | none => resR2 P N o
theorem resR_snd {N : Nat} {ts : Fr} {a : Act} {o : Oper} {r : RO} {v : Value} (hr : resR P N o = some r) (ha : AR G N ts a) (hs : St P w0 G m w) (hd : dR ts m r = some v) :
    ∃ v', (execOp a.eval o).run P w = .ok (.value v') w ∧ VR G v v' := by
  unfold resR at hr
  split at hr
  · rename_i r' h
    simp at hr; subst hr
    exact resR1_snd h ha hs hd
  · exact resR2_snd hr ha hs hd
end
end Go.Proofs.YtgfkjldohilmkaaDoor.Ab
