/- More operations that look: pointers without a type, where a slice's bytes lie, what an interface holds, a number as a text. -/
import Derived.Test.YtgfkjldohilmkaaDoorAb6
import Derived.Lib.Builder
import Derived.Lib.UnsafeStr
set_option linter.unusedVariables false
set_option linter.unusedSimpArgs false
namespace Go.Proofs.YtgfkjldohilmkaaDoor.Ab
open Go Go.RowKit

def resR2 (P : Program) (N : Nat) (o : Oper) : Option RO :=
  if o.op.operands.all (okX P N) then
    match o.op with
    | .convert s t x => match P.underlying s, P.underlying t with
      | some (.pointer e), some .unsafePointer => match P.info? e with
        | some j => if j.size = 0 then none else some (.cvp x)
        | none => none
      | some .unsafePointer, some (.pointer u) => match P.info? u with
        | some j => if j.size = 0 then none else some (.cvu u j.size x)
        | none => none
      | some (.int _), some .string => some (.i2s x)
      | _, _ => none
    | .typeAssert x xt t ok => match P.underlying t with
      | some (.interface _) => none
      | some _ => match P.info? t with
        | some i => match i.zero with
          | some z => if plainV 6 z then some (.tas t z ok x) else none
          | none => none
        | none => none
      | none => none
    | .call { callee := .builtin .cap, args, argTypes } => match args.toList, argTypes.toList with
      | [x], [t] => match P.underlying t with
        | some (.slice _) => some (.capn x)
        | _ => none
      | _, _ => none
    | .call { callee := .builtin .unsafeSliceData, args, .. } => match args.toList with
      | [x] => some (.usd x)
      | _ => none
    | _ => none
  else none

section
variable {P : Program} {w0 w : World} {G : Loc} {m : Mem}

theorem liesAt_at {e : TypeId} (count off n : Nat) (hz : P.cellsOf e ≠ 0) (hr : off % P.cellsOf e = 0) (hn : off / P.cellsOf e + n ≤ count) : liesAt P P.depth e count off e n = true := by
  have hd : P.depth = (2 * (P.types.size + Made.depth) + 1) + 1 := rfl
  rw [hd]
  simp only [liesAt, Bool.or_eq_true]
  left
  rw [hd]
  simp [rowAt, hz, hr, hn, sameLayout]

/-- The real block of an own one. -/
theorem own_real (hs : St P w0 G m w) {i B b S : Nat} {cs : List Value} {e : TypeId} (hg : G i = some (B, b, S)) (h : m.get i = .own cs e) :
    ∃ c fz, w.heap[B]? = some (.cells c e fz) ∧ (∀ (j : Nat) (v : Value), cs[j]? = some v → ∃ v', c[b + j]? = some v' ∧ VR G v v') ∧ (0 < cs.length → b + cs.length ≤ c.size) := by
  obtain ⟨B', b', S', g', r⟩ := hs.ent i (by rw [h]; simp)
  rw [hg] at g'
  cases g'
  rw [h] at r
  obtain ⟨h0, c, fz, h1, h2, h3, h4⟩ := r
  refine ⟨c, fz, h1, h4, fun hp => ?_⟩
  obtain ⟨v', hv, _⟩ := h4 (cs.length - 1) cs[cs.length - 1] (by simp)
  have := (Array.getElem?_eq_some_iff.1 hv).1
  omega

theorem snd_cvp {N : Nat} {ts : Fr} {a : Act} (ha : AR G N ts a) (hs : St P w0 G m w) {s t e : TypeId} {j : TypeInfo} (h1 : P.underlying s = some (.pointer e)) (h2 : P.underlying t = some .unsafePointer) (hj : P.info? e = some j) (hz : j.size ≠ 0) {x : Operand} (hx : okX P N x = true) {v : Value}
    (h : dR ts m (.cvp x) = some v) : ∃ v', (convert s t (a.eval x)).run P w = .ok v' w ∧ VR G v v' := by
  have vx := ev_VR ha hs x hx
  simp only [dR] at h
  split at h
  · rename_i hq
    rw [hq] at vx
    simp at h; subst h
    generalize a.eval x = X at *
    cases vx
    exact ⟨.pointer none, by simp [convert, run_underlying h1, run_underlying h2, Conv.unsafePointer], .nilp⟩
  · rename_i i o hq
    rw [hq] at vx
    split at h
    case h_2 => cases h
    rename_i cs e' hown
    split at h
    case isFalse => cases h
    rename_i hlt
    simp at h; subst h
    generalize a.eval x = X at *
    cases vx with
    | ptr _ _ B b S hg =>
      obtain ⟨c, fz, hw, hc, hl⟩ := own_real hs hg hown
      have hl := hl (by omega)
      have hsh : w.shape? B = some (e', c.size) := by simp [World.shape?, hw]
      exact ⟨_, Lib.run_to_unsafe (P := P) w ⟨B, b + o, none⟩ h1 h2 hj hz hsh (by show b + o < c.size; omega), .ptr _ _ _ _ _ hg⟩
  · cases h

theorem snd_cvu {N : Nat} {ts : Fr} {a : Act} (ha : AR G N ts a) (hs : St P w0 G m w) {s t u : TypeId} {j : TypeInfo} (h1 : P.underlying s = some .unsafePointer) (h2 : P.underlying t = some (.pointer u)) (hj : P.info? u = some j) (hz : j.size ≠ 0) {x : Operand} (hx : okX P N x = true) {v : Value}
    (h : dR ts m (.cvu u j.size x) = some v) : ∃ v', (convert s t (a.eval x)).run P w = .ok v' w ∧ VR G v v' := by
  have vx := ev_VR ha hs x hx
  have hcu : P.cellsOf u = j.size := by simp [Program.cellsOf, hj]
  simp only [dR] at h
  split at h
  · rename_i hq
    rw [hq] at vx
    simp at h; subst h
    generalize a.eval x = X at *
    cases vx
    exact ⟨.pointer none, by simp [convert, run_underlying h1, run_underlying h2, Conv.unsafePointer], .nilp⟩
  · rename_i i o hq
    rw [hq] at vx
    split at h
    case h_2 => cases h
    rename_i cs e' hown
    split at h
    case isFalse => cases h
    rename_i hcond
    obtain ⟨rfl, hom, hle⟩ := hcond
    simp at h; subst h
    generalize a.eval x = X at *
    cases vx with
    | ptr _ _ B b S hg =>
      obtain ⟨c, fz, hw, hc, hl⟩ := own_real hs hg hown
      have hl := hl (by omega)
      have hal := hs.ali _ _ _ _ _ _ hown hg
      have hsh : w.shape? B = some (e', c.size) := by simp [World.shape?, hw]
      have hmod : (b + o) % j.size = 0 := by rw [hcu] at hal; rw [Nat.add_mod, hal, hom]; simp
      have hlies : liesAt P P.depth e' (c.size / P.cellsOf e') (b + o) e' 1 = true := by
        refine liesAt_at _ _ _ (by rw [hcu]; exact hz) (by rw [hcu]; exact hmod) ?_
        rw [hcu]
        have hd : (b + o) / j.size * j.size = b + o := Nat.div_mul_cancel (Nat.dvd_of_mod_eq_zero hmod)
        rw [Nat.le_div_iff_mul_le (by omega), Nat.add_mul, hd]
        omega
      exact ⟨_, Lib.run_from_unsafe (P := P) w ⟨B, b + o, none⟩ h1 h2 hj hsh hlies, .ptr _ _ _ _ _ hg⟩
  · cases h

theorem snd_usd {N : Nat} {ts : Fr} {a : Act} (ha : AR G N ts a) (hs : St P w0 G m w) {ats : Array TypeId} {ty : TypeId} {x : Operand} (hx : okX P N x = true) {v : Value}
    (h : dR ts m (.usd x) = some v) : ∃ v', (Builtin.unsafeSliceData_ ats ty #[a.eval x]).run P w = .ok v' w ∧ VR G v v' := by
  have vx := ev_VR ha hs x hx
  simp only [dR] at h
  split at h
  · rename_i n c hq
    rw [hq] at vx
    simp at h; subst h
    generalize a.eval x = X at *
    cases vx
    exact ⟨.pointer none, rfl, .nilp⟩
  · rename_i i o n c hq
    rw [hq] at vx
    split at h
    case isFalse => cases h
    rename_i hlt
    simp at h; subst h
    generalize a.eval x = X at *
    cases vx with
    | sl _ _ B b S _ cp _ hg hn hc hS =>
      exact ⟨_, Lib.run_unsafeSliceData_row (P := P) w ats ty ⟨B, b + o, none⟩ n cp (by omega), .ptr _ _ _ _ _ hg⟩
  · cases h

theorem resR2_snd {N : Nat} {ts : Fr} {a : Act} {o : Oper} {r : RO} {v : Value} (hr : resR2 P N o = some r) (ha : AR G N ts a) (hs : St P w0 G m w) (hd : dR ts m r = some v) :
    ∃ v', (execOp a.eval o).run P w = .ok (.value v') w ∧ VR G v v' := by
  obtain ⟨dst, op, ty, pos, after, guard⟩ := o
  unfold resR2 at hr
  split at hr
  case isFalse => cases hr
  rename_i hok0
  have hok := okX_of hok0
  clear hok0
  have hE : ∀ x, okX P N x = true → VR G (ev ts x) (a.eval x) := fun x hx => ev_VR ha hs x hx
  cases op <;> simp only [Op.operands] at hok hr <;> try (cases hr; done)
  case convert s t x =>
    have hx := hok x (by simp)
    split at hr
    · rename_i e h1 h2
      split at hr
      case h_2 => cases hr
      rename_i j hj
      split at hr
      case isTrue => cases hr
      rename_i hz
      simp at hr; subst hr
      obtain ⟨v', h3, h4⟩ := snd_cvp ha hs h1 h2 hj hz hx hd
      exact ⟨v', by simp [execOp, h3], h4⟩
    · rename_i u h1 h2
      split at hr
      case h_2 => cases hr
      rename_i j hj
      split at hr
      case isTrue => cases hr
      rename_i hz
      simp at hr; subst hr
      obtain ⟨v', h3, h4⟩ := snd_cvu ha hs h1 h2 hj hz hx hd
      exact ⟨v', by simp [execOp, h3], h4⟩
    · rename_i k h1 h2
      simp at hr; subst hr
      have vx := hE x hx
      simp only [dR] at hd
      split at hd
      · rename_i q n he
        rw [he] at vx; simp at hd; subst hd
        refine ⟨.string (Utf8.encode n), ?_, .str _⟩
        simp only [execOp]
        generalize a.eval x = z at vx
        cases vx
        simp [convert, run_underlying h1, run_underlying h2, Conv.intToString]
      · cases hd
    · cases hr
  case typeAssert x xt t ok =>
    have vx := hE x (hok x (by simp))
    split at hr
    · cases hr
    · rename_i d hnd hu
      split at hr
      case h_2 => cases hr
      rename_i i hi
      split at hr
      case h_2 => cases hr
      rename_i z hz
      split at hr
      case isFalse => cases hr
      rename_i hp
      simp at hr; subst hr
      have hzz : (zeroValue t).run P w = .ok z w := by simp [zeroValue, typeInfo, hi, hz]
      have hnd' : ∀ ms, d ≠ .interface ms := fun ms e => hnd ms e
      have zf : VR G (.tuple ⟨[z, .bool false]⟩) (.tuple #[z, .bool false]) := .tuple _ _ (.cons _ _ _ _ (VR.plain 6 z hp) (.cons _ _ _ _ (.bool false) .nil))
      simp only [dR] at hd
      split at hd
      · rename_i he
        rw [he] at vx
        split at hd
        case isFalse => cases hd
        rename_i hk
        simp at hd; subst hd
        refine ⟨_, ?_, zf⟩
        simp only [execOp]
        generalize a.eval x = X at *
        cases vx
        cases d <;> first
          | exact (hnd' _ rfl).elim
          | simp [Instr.typeAssert, run_underlying hu, hk, hzz]
      · rename_i d' v0 he
        rw [he] at vx
        split at hd
        · rename_i hdt
          simp at hd; subst hd hdt
          generalize hX : a.eval x = X at *
          cases vx with
          | iface _ _ v' hv =>
            cases ok with
            | true =>
              refine ⟨.tuple #[v', .bool true], ?_, .tuple _ _ (.cons _ _ _ _ hv (.cons _ _ _ _ (.bool true) .nil))⟩
              simp only [execOp, hX]
              cases d <;> first
                | exact (hnd' _ rfl).elim
                | simp [Instr.typeAssert, run_underlying hu]
            | false =>
              refine ⟨v', ?_, hv⟩
              simp only [execOp, hX]
              cases d <;> first
                | exact (hnd' _ rfl).elim
                | simp [Instr.typeAssert, run_underlying hu]
        · rename_i hdt
          split at hd
          case isFalse => cases hd
          rename_i hk
          simp at hd; subst hd
          refine ⟨_, ?_, zf⟩
          simp only [execOp]
          generalize a.eval x = X at *
          cases vx
          cases d <;> first
            | exact (hnd' _ rfl).elim
            | simp [Instr.typeAssert, run_underlying hu, hk, hzz, hdt]
      · cases hd
    · cases hr
  case call c =>
    obtain ⟨cal, args, argT⟩ := c
    cases cal with
    | value f => simp at hr
    | invoke r mm => simp at hr
    | builtin b =>
      simp only [Call.operands] at hok
      cases b <;> simp only [] at hr <;> first | (cases hr; done) | skip
      case cap =>
        split at hr
        case h_2 => cases hr
        rename_i x t hargs hty
        split at hr
        case h_2 => cases hr
        rename_i e hu
        obtain rfl : args = #[x] := by apply Array.ext'; simpa using hargs
        obtain rfl : argT = #[t] := by apply Array.ext'; simpa using hty
        simp at hr; subst hr
        have hx := hE x (hok x (by simp))
        simp only [dR] at hd
        split at hd
        · rename_i n c he
          rw [he] at hx; simp at hd; subst hd
          refine ⟨.int .i64 0, ?_, .int _ _⟩
          simp only [execOp, resolve, Sem.run_bind, Sem.run_pure, Result.andThen_ok, invoke, builtin, List.map_toArray, List.map_cons, List.map_nil]
          generalize a.eval x = z at hx
          cases hx
          simp [Builtin.cap_, run_underlying hu, goInt]
        · cases hd
      case unsafeSliceData =>
        split at hr
        case h_2 => cases hr
        rename_i x hargs
        obtain rfl : args = #[x] := by apply Array.ext'; simpa using hargs
        simp at hr; subst hr
        obtain ⟨v', h1, h2⟩ := snd_usd (ats := argT) (ty := ty) ha hs (hok x (by simp)) hd
        refine ⟨v', ?_, h2⟩
        simp only [execOp, resolve, Sem.run_bind, Sem.run_pure, Result.andThen_ok, invoke, builtin, List.map_toArray, List.map_cons, List.map_nil]
        rw [h1]
        rfl

def resR (P : Program) (N : Nat) (o : Oper) : Option RO := match resR1 P N o with
  | some r => some r
  | none => resR2 P N o
theorem resR_snd {N : Nat} {ts : Fr} {a : Act} {o : Oper} {r : RO} {v : Value} (hr : resR P N o = some r) (ha : AR G N ts a) (hs : St P w0 G m w) (hd : dR ts m r = some v) :
    ∃ v', (execOp a.eval o).run P w = .ok (.value v') w ∧ VR G v v' := by
  unfold resR at hr
  split at hr
  · rename_i r' h
    simp at hr; subst hr
    exact resR1_snd h ha hs hd
  · exact resR2_snd hr ha hs hd
end
end Go.Proofs.YtgfkjldohilmkaaDoor.Ab
