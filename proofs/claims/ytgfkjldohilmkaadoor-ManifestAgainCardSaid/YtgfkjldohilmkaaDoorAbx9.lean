/- unsafe.String: the bytes of a row as a text; the row is given up. -/
import Derived.Test.YtgfkjldohilmkaaDoorAb9
set_option linter.unusedVariables false
set_option linter.unusedSimpArgs false
namespace Go.Proofs.YtgfkjldohilmkaaDoor.Ab
open Go Go.RowKit

def resE2 (P : Program) (N : Nat) (o : Oper) : Option EO :=
  if o.op.operands.all (okX P N) then
    match o.op with
    | .makeMap t none => match P.underlying t with
      | some (.map _ _) => some .mkm
      | _ => none
    | .mapUpdate t x k v => match P.underlying t with
      | some (.map kt _) => match P.underlying kt with
        | some (.int _) => some (.mup false x k v)
        | some .string => some (.mup true x k v)
        | _ => none
      | _ => none
    | .insert t x k v => match P.underlying t with
      | some (.map kt _) => match P.underlying kt with
        | some (.int _) => some (.mup false x k v)
        | some .string => some (.mup true x k v)
        | _ => none
      | _ => none
    | .call { callee := .builtin .unsafeString, args, argTypes } => match args.toList, argTypes.toList with
      | [p, n], [t, _] => match P.underlying t with
        | some (.pointer e) => if P.cellsOf e = 1 then some (.ust e p n) else none
        | _ => none
      | _, _ => none
    | _ => none
  else none

section
variable {P : Program} {w0 w : World} {G : Loc} {m : Mem}

theorem run_loadB : ∀ (ns : List Int) (a : Addr) (acc : ByteArray), (∀ (j : Nat) (n : Int), ns[j]? = some n → w.cell? (a.add j) = some (.int .u8 n)) →
    (loadBytes a acc ns.length).run P w = .ok ⟨acc.data ++ (ns.map fun n => UInt8.ofNat n.toNat).toArray⟩ w
  | [], a, acc, _ => by simp [loadBytes]
  | x :: l, a, acc, h => by
    have h0 : w.cell? a = some (.int .u8 x) := by
      have := h 0 x rfl
      simpa [Addr.add] using this
    have ih := run_loadB l (a.add 1) (acc.push (UInt8.ofNat x.toNat)) (fun j y hy => by
      have := h (j + 1) y (by simpa using hy)
      have e : (a.add 1).add j = a.add (j + 1) := by
        unfold Addr.add
        by_cases hj : j = 0
        · subst hj; simp
        · simp [hj]; omega
      rw [e]; exact this)
    simp only [List.length_cons, loadBytes, Sem.run_bind, run_load, h0, Result.andThen, Nat.toUInt8]
    show (loadBytes (a.add 1) (acc.push (UInt8.ofNat x.toNat)) l.length).run P w = _
    rw [ih]
    congr 1
    apply ByteArray.ext
    simp [ByteArray.push]

theorem run_ust (pt it ty e : TypeId) (hp : P.underlying pt = some (.pointer e)) (hc : P.cellsOf e = 1) (g o cells : Nat) (hsh : w.shape? g = some (e, cells)) (ns : List Int) (h0 : ns.length ≠ 0) (hn : o + ns.length ≤ cells) (h63 : ns.length ≤ 9223372036854775807)
    (hcell : ∀ (j : Nat) (n : Int), ns[j]? = some n → w.cell? ((⟨g, o, none⟩ : Addr).add j) = some (.int .u8 n)) :
    (Builtin.unsafeString_ #[pt, it] ty #[.pointer (some ⟨g, o, none⟩), .int .i64 ns.length]).run P w = .ok (.string ⟨(ns.map fun n => UInt8.ofNat n.toNat).toArray⟩) (w.freeze ⟨g, o, none⟩ ns.length) := by
  have hlb := run_loadB (P := P) (w := w) ns ⟨g, o, none⟩ .empty hcell
  have hlies : liesAt P P.depth e (cells / P.cellsOf e) o e ns.length = true := liesAt_at _ _ _ (by rw [hc]; omega) (by rw [hc]; exact Nat.mod_one _) (by rw [hc]; simpa using hn)
  have h63' : ¬ (9223372036854775807 : Int) < (ns.length : Int) := by omega
  have hdef : Builtin.unsafeString_ #[pt, it] ty #[.pointer (some ⟨g, o, none⟩), .int .i64 ns.length] =
      (do
        let n ← asInt (.int .i64 ns.length)
        if n < 0 then runtimePanic (.error "unsafe.String: len out of range")
        if n > IntKind.i64.max then unsupported (.unsafePointer "String: a length above the largest int")
        if n = 0 then pure (.string .empty)
        else if ← variablesAt ⟨g, o, none⟩ (← elemOf pt) n.toNat then do
          let s ← loadBytes ⟨g, o, none⟩ .empty n.toNat
          freeze ⟨g, o, none⟩ n.toNat
          pure (.string s)
        else unsupported (.unsafePointer "String: not so many bytes at ptr")) := rfl
  rw [hdef]
  have hmax : IntKind.i64.max = 9223372036854775807 := rfl
  have hneg : ¬ (ns.length : Int) < 0 := by omega
  simp [asInt, asIntOf, hmax, h63', hneg, h0, variablesAt, hsh, elemOf, run_underlying hp, hlies, hlb]

theorem freeze_spec (w : World) (g o n : Nat) : (w.freeze ⟨g, o, none⟩ n).os = w.os ∧ (w.freeze ⟨g, o, none⟩ n).tape = w.tape ∧ (w.freeze ⟨g, o, none⟩ n).output = w.output ∧ (w.freeze ⟨g, o, none⟩ n).heap.size = w.heap.size ∧ ∀ k, k ≠ g → (w.freeze ⟨g, o, none⟩ n).heap[k]? = w.heap[k]? := by
  unfold World.freeze
  split
  · exact ⟨rfl, rfl, rfl, rfl, fun _ _ => rfl⟩
  · refine ⟨rfl, rfl, rfl, by simp, fun k hk => ?_⟩
    simp only [Array.getElem?_modify]
    rw [if_neg (fun e => hk e.symm)]

theorem snd_ust {N : Nat} {ts : Fr} {a : Act} (ha : AR G N ts a) (hs : St P w0 G m w) {t it ty e : TypeId} (ht : P.underlying t = some (.pointer e)) (hc : P.cellsOf e = 1) {p n : Operand} (hp : okX P N p = true) (hn : okX P N n = true) {v : Value} {m' : Mem}
    (h : dE ts m (.ust e p n) = some (v, m')) : ∃ v' w', (Builtin.unsafeString_ #[t, it] ty #[a.eval p, a.eval n]).run P w = .ok v' w' ∧ Leaves P w0 w G v m' v' w' := by
  have vp := ev_VR ha hs p hp
  have vn := ev_VR ha hs n hn
  simp only [dE] at h
  split at h
  · rename_i k h1 h2
    rw [h1] at vp; rw [h2] at vn
    split at h
    case isFalse => cases h
    rename_i hk
    simp at h
    obtain ⟨rfl, rfl⟩ := h
    subst hk
    generalize a.eval p = X at *
    generalize a.eval n = Y at *
    cases vp; cases vn
    exact ⟨_, w, Lib.run_unsafeString_none (P := P) w t it ty none, G, Loc.le_refl G, .str _, hs⟩
  · rename_i i o k h1 h2
    rw [h1] at vp; rw [h2] at vn
    generalize a.eval p = X at *
    generalize a.eval n = Y at *
    cases vn
    cases vp with
    | ptr _ _ B b S hg =>
    split at h
    · rename_i hk
      simp at h
      obtain ⟨rfl, rfl⟩ := h
      subst hk
      exact ⟨_, w, Lib.run_unsafeString_none (P := P) w t it ty (some ⟨B, b + o, none⟩), G, Loc.le_refl G, .str _, hs⟩
    · rename_i hk0
      split at h
      case isFalse => cases h
      rename_i hk
      split at h
      case h_2 => cases h
      rename_i cs e' hown
      split at h
      case isFalse => cases h
      rename_i hcond
      obtain ⟨rfl, hle⟩ := hcond
      split at h
      case h_2 => cases h
      rename_i bs hbs
      simp at h
      obtain ⟨rfl, rfl⟩ := h
      obtain ⟨ns, hns, rfl⟩ := bytesOf_cells hbs
      obtain ⟨c, fz, hw, hcell, hl⟩ := own_real hs hg hown
      have hl := hl (by omega)
      have hlen : ns.length = k.toNat := by
        have := congrArg List.length hns
        simp at this
        omega
      have hsh : w.shape? B = some (e', c.size) := by simp [World.shape?, hw]
      have hrow : m.row i o k.toNat = some (ns.map (Value.int .u8)) := by
        rw [← hns]
        simp [Mem.row, hown, Ent.cells?, hle]
      obtain ⟨cs', r1, r2, r3⟩ := hs.row hg hrow
      have := VRs.ints r2
      subst this
      have hr := run_ust (P := P) (w := w) t it ty e' ht hc B (b + o) c.size hsh ns (by omega) (by omega) (by omega) (fun j q hq => r3 j _ (by simp [hq]))
      have hkn : (ns.length : Int) = k := by omega
      rw [hkn] at hr
      obtain ⟨f1, f2, f3, f4, f5⟩ := freeze_spec w B (b + o) ns.length
      refine ⟨_, _, hr, G, Loc.le_refl G, .str _, ?_⟩
      exact hs.write (e := .dead) (by rw [hown]; rfl) hg f1 f2 f3 f4 f5 trivial (fun _ _ he => by cases he)
  · cases h

/-! Maps: made, and written. -/
theorem snd_mkm (hs : St P w0 G m w) {t k e : TypeId} (ht : P.underlying t = some (.map k e)) : ∃ v' w', (Instr.makeMap t none).run P w = .ok v' w' ∧ Leaves P w0 w G (.map (some m.next)) (m.push (.map [] 0)) v' w' := by
  have h := hs.alloc (.map #[] 0) (.map [] 0) 0 ⟨hs.below.size, rfl, [], heap_alloc_new w _, rfl, .nil, .nil⟩
  refine ⟨.map (some w.heap.size), w.alloc (.map #[] 0), ?_, _, h.1, .map _ _ 0 (by simp), h.2⟩
  simp [Instr.makeMap, newObj, Sem.run]

theorem VR.flat_eq {G : Loc} {v v' : Value} (hf : flatV v = true) (h : VR G v v') : v' = v := by
  cases h <;> first | rfl | (simp [flatV] at hf; done)
theorem mapPut_get : ∀ (es : List MapEntry) (i : Nat) (k v : Value) (j : Nat), (mapPut es i k v)[j]? = (es.modify i fun e => { e with key := k, val := v })[j]?
  | [], i, k, v, j => by simp [mapPut]
  | e :: es, 0, k, v, j => by cases j <;> simp [mapPut]
  | e :: es, i + 1, k, v, 0 => by simp [mapPut]
  | e :: es, i + 1, k, v, j + 1 => by simp [mapPut, mapPut_get es i k v j]
theorem mapPut_modify (es : List MapEntry) (i : Nat) (k v : Value) : (es.toArray.modify i fun e => { e with key := k, val := v }) = (mapPut es i k v).toArray := by
  apply Array.ext'
  simp only [Array.toList_modify]
  exact (List.ext_getElem? (mapPut_get es i k v)).symm
theorem mapPut_born : ∀ (es es' : List MapEntry) (i : Nat) (k v k' v' : Value), es'.map (·.born) = es.map (·.born) → (mapPut es' i k' v').map (·.born) = (mapPut es i k v).map (·.born)
  | [], [], i, k, v, k', v', h => rfl
  | [], e' :: es', i, k, v, k', v', h => by simp at h
  | e :: es, [], i, k, v, k', v', h => by simp at h
  | e :: es, e' :: es', 0, k, v, k', v', h => by simpa [mapPut] using h
  | e :: es, e' :: es', i + 1, k, v, k', v', h => by
    simp only [List.map_cons, List.cons.injEq] at h
    simp [mapPut, h.1, mapPut_born es es' i k v k' v' h.2]
theorem mapPut_keys {k v k' v' : Value} (hk : VR G k k') : ∀ (es es' : List MapEntry) (i : Nat), VRs G (es.map (·.key)) (es'.map (·.key)) → VRs G ((mapPut es i k v).map (·.key)) ((mapPut es' i k' v').map (·.key))
  | [], [], i, h => .nil
  | [], e' :: es', i, h => by cases h
  | e :: es, [], i, h => by cases h
  | e :: es, e' :: es', 0, h => by cases h with | cons _ _ _ _ a b => exact .cons _ _ _ _ hk b
  | e :: es, e' :: es', i + 1, h => by cases h with | cons _ _ _ _ a b => exact .cons _ _ _ _ a (mapPut_keys hk es es' i b)
theorem mapPut_vals {k v k' v' : Value} (hv : VR G v v') : ∀ (es es' : List MapEntry) (i : Nat), VRs G (es.map (·.val)) (es'.map (·.val)) → VRs G ((mapPut es i k v).map (·.val)) ((mapPut es' i k' v').map (·.val))
  | [], [], i, h => .nil
  | [], e' :: es', i, h => by cases h
  | e :: es, [], i, h => by cases h
  | e :: es, e' :: es', 0, h => by cases h with | cons _ _ _ _ a b => exact .cons _ _ _ _ hv b
  | e :: es, e' :: es', i + 1, h => by cases h with | cons _ _ _ _ a b => exact .cons _ _ _ _ a (mapPut_vals hv es es' i b)

theorem same_flat {str : Bool} {x y : Value} {b : Bool} (h : keyIs str x y = some b) (n : Nat) : Instr.sameBits n x x = true := by
  unfold keyIs at h
  split at h
  · simp [Instr.sameBits]
  · rename_i s t
    have e0 : (s == s) = (s.data == s.data) := rfl
    simp [Instr.sameBits, e0]
  · cases h
theorem mapFind_key {str : Bool} {k : Value} : ∀ (es : List MapEntry) (i : Nat) (r : Nat × Value), mapFind str k es i = some (some r) → ∃ y, keyIs str k y = some true
  | [], i, r, h => by simp [mapFind] at h
  | e :: es, i, r, h => by
    simp only [mapFind] at h
    split at h
    · rename_i hq; exact ⟨_, hq⟩
    · exact mapFind_key es _ _ h
    · cases h
theorem keyStays {str : Bool} {x y : Value} {b : Bool} (h : keyIs str x y = some b) : (Instr.keyThatStays x x).run P w = .ok x w := by
  have := same_flat h 10000
  simp only [Instr.keyThatStays, this, if_true, Sem.run_pure]

theorem snd_mup {N : Nat} {ts : Fr} {a : Act} (ha : AR G N ts a) (hs : St P w0 G m w) {str : Bool} {mt kt e : TypeId} {d : TypeDesc} (hm : P.underlying mt = some (.map kt e)) (hu : P.underlying kt = some d) (hd : kdIs str d)
    {x y z : Operand} (hx : okX P N x = true) (hy : okX P N y = true) (hz : okX P N z = true) {v : Value} {m' : Mem} (h : dE ts m (.mup str x y z) = some (v, m')) :
    ∃ w', (Instr.mapUpdate mt (a.eval x) (a.eval y) (a.eval z)).run P w = .ok () w' ∧ v = undef ∧ St P w0 G m' w' := by
  have vx := ev_VR ha hs x hx
  have vy := ev_VR ha hs y hy
  have vz := ev_VR ha hs z hz
  simp only [dE] at h
  generalize a.eval x = X at *
  generalize a.eval y = Y at *
  generalize a.eval z = Z at *
  split at h
  case h_2 => cases h
  rename_i r hq
  rw [hq] at vx
  split at h
  case h_2 => cases h
  rename_i es cl hr
  cases vx with
  | map _ B S hg =>
  obtain ⟨es', h1, h2, h3, h4⟩ := map_get hs hr hg
  have hc := checkKey_kd (P := P) (w := w) hu hd false Y
  have hgo : (getObj B).run P w = .ok (.map es'.toArray cl) w := by simp [getObj, Sem.run, h1]
  have hso : ∀ o : Obj, (setObj B o).run P w = .ok () { w with heap := w.heap.setIfInBounds B o } := fun o => by simp [setObj, Sem.run, h1]
  have hlt : B < w.heap.size := by
    rcases Nat.lt_or_ge B w.heap.size with h' | h'
    · exact h'
    · rw [Array.getElem?_eq_none h'] at h1; cases h1
  have hwr : ∀ (es1 es1' : List MapEntry) (cl1 : Nat), es1'.map (·.born) = es1.map (·.born) → VRs G (es1.map (·.key)) (es1'.map (·.key)) → VRs G (es1.map (·.val)) (es1'.map (·.val)) → St P w0 G (m.set r (.map es1 cl1)) { w with heap := w.heap.setIfInBounds B (.map es1'.toArray cl1) } := by
    intro es1 es1' cl1 g1 g2 g3
    refine hs.write (e := .map es1 cl1) (by rw [hr]; rfl) hg rfl rfl rfl (by simp) (fun k hk => ?_) ⟨?_, rfl, es1', by simp [hlt], g1, g2, g3⟩ (fun _ _ he => by cases he)
    · show (w.heap.setIfInBounds B _)[k]? = _
      rw [Array.getElem?_setIfInBounds, if_neg (fun e => hk e.symm)]
    · obtain ⟨B', b', S', g', r'⟩ := hs.ent r (by rw [hr]; simp)
      rw [hg] at g'; cases g'
      rw [hr] at r'
      exact r'.1
  split at h
  · rename_i i v1 hf
    simp at h
    obtain ⟨rfl, rfl⟩ := h
    rcases mapFind_snd hd vy es es' 0 _ h3 h4 hf with ⟨e1, _⟩ | ⟨j', v2, v', e', e1, e2, e3, e4, e5, e6⟩
    · cases e1
    · simp at e1
      obtain ⟨rfl, rfl⟩ := e1
      have hf' := findKey_kd (str := str) (P := P) (w := w) hu e2
      obtain ⟨y0, hy0⟩ := mapFind_key _ _ _ hf
      have hYe : Y = ev ts y := VR.flat_eq e6 vy
      have hks := keyStays (P := P) (w := w) hy0
      rw [← hYe] at hks
      have hmod : (es'.modify i fun e => { key := Y, val := Z, born := e.born }) = mapPut es' i Y Z := (List.ext_getElem? (mapPut_get es' i Y Z)).symm
      refine ⟨_, ?_, rfl, hwr (mapPut es i (ev ts y) (ev ts z)) (mapPut es' i Y Z) cl (mapPut_born _ _ _ _ _ _ _ h2) (mapPut_keys vy _ _ _ h3) (mapPut_vals vz _ _ _ h4)⟩
      simp only [Nat.zero_add] at hf'
      have hat : (es'[i]?.map (·.key)).getD Y = Y := by rw [e4]; simp [e5]
      simp [Instr.mapUpdate, run_underlying hm, hgo, hc, hf', e4, e5, hks, hso, hmod]
  · rename_i hf
    simp at h
    obtain ⟨rfl, rfl⟩ := h
    rcases mapFind_snd hd vy es es' 0 _ h3 h4 hf with ⟨e1, e2⟩ | ⟨j', v2, v', e', e1, e2, e3, _⟩
    · have hf' := findKey_kd (str := str) (P := P) (w := w) hu e2
      refine ⟨_, ?_, rfl, hwr (es ++ [⟨ev ts y, ev ts z, cl⟩]) (es' ++ [⟨Y, Z, cl⟩]) (Nat.succ cl) (by simp [h2]) (by simpa using VRs.append h3 (.cons _ _ _ _ vy .nil)) (by simpa using VRs.append h4 (.cons _ _ _ _ vz .nil))⟩
      simp [Instr.mapUpdate, run_underlying hm, hgo, hc, hf', hso]
    · cases e1
  · cases h

theorem resE2_snd {N : Nat} {ts : Fr} {a : Act} {o : Oper} {r : EO} {v : Value} {m' : Mem} (hr : resE2 P N o = some r) (ha : AR G N ts a) (hs : St P w0 G m w) (hd : dE ts m r = some (v, m')) :
    ∃ v' w', OkOp P a o w v' w' ∧ Leaves P w0 w G v m' v' w' := by
  obtain ⟨dst, op, ty, pos, after, guard⟩ := o
  unfold resE2 at hr
  split at hr
  case isFalse => cases hr
  rename_i hok0
  have hok := okX_of hok0
  clear hok0
  cases op <;> simp only [Op.operands] at hok hr <;> try (cases hr; done)
  case makeMap t rs =>
    cases rs with
    | some x => simp at hr
    | none =>
      simp only [] at hr
      split at hr
      case h_2 => cases hr
      rename_i k e hu
      simp at hr; subst hr
      simp [dE] at hd
      obtain ⟨rfl, rfl⟩ := hd
      obtain ⟨v', w', h1, h2⟩ := snd_mkm hs hu
      exact ⟨v', w', .inl (by simp [execOp, h1]), h2⟩
  case mapUpdate t x k v =>
    split at hr
    case h_2 => cases hr
    rename_i kt e hm
    split at hr
    · rename_i ik hu
      simp at hr; subst hr
      obtain ⟨w', h1, rfl, h2⟩ := snd_mup ha hs hm hu (str := false) ⟨ik, rfl⟩ (hok x (by simp)) (hok k (by simp)) (hok v (by simp)) hd
      exact ⟨undef, w', .inr ⟨by simp [execOp, h1], rfl⟩, G, Loc.le_refl G, VR.undef G, h2⟩
    · rename_i hu
      simp at hr; subst hr
      obtain ⟨w', h1, rfl, h2⟩ := snd_mup ha hs hm hu (str := true) rfl (hok x (by simp)) (hok k (by simp)) (hok v (by simp)) hd
      exact ⟨undef, w', .inr ⟨by simp [execOp, h1], rfl⟩, G, Loc.le_refl G, VR.undef G, h2⟩
    · cases hr
  case insert t x k v =>
    split at hr
    case h_2 => cases hr
    rename_i kt e hm
    split at hr
    · rename_i ik hu
      simp at hr; subst hr
      obtain ⟨w', h1, rfl, h2⟩ := snd_mup ha hs hm hu (str := false) ⟨ik, rfl⟩ (hok x (by simp)) (hok k (by simp)) (hok v (by simp)) hd
      exact ⟨undef, w', .inr ⟨by simp [execOp, h1], rfl⟩, G, Loc.le_refl G, VR.undef G, h2⟩
    · rename_i hu
      simp at hr; subst hr
      obtain ⟨w', h1, rfl, h2⟩ := snd_mup ha hs hm hu (str := true) rfl (hok x (by simp)) (hok k (by simp)) (hok v (by simp)) hd
      exact ⟨undef, w', .inr ⟨by simp [execOp, h1], rfl⟩, G, Loc.le_refl G, VR.undef G, h2⟩
    · cases hr
  case call c =>
    obtain ⟨cal, args, argT⟩ := c
    cases cal with
    | value f => simp at hr
    | invoke r mm => simp at hr
    | builtin b =>
      simp only [Call.operands] at hok
      cases b <;> simp only [] at hr <;> first | (cases hr; done) | skip
      case unsafeString =>
        split at hr
        case h_2 => cases hr
        rename_i p n t t2 hargs hty
        split at hr
        case h_2 => cases hr
        rename_i e hu
        split at hr
        case isFalse => cases hr
        rename_i hc
        obtain rfl : args = #[p, n] := by apply Array.ext'; simpa using hargs
        obtain rfl : argT = #[t, t2] := by apply Array.ext'; simpa using hty
        simp at hr; subst hr
        obtain ⟨v', w', h1, h2⟩ := snd_ust (it := t2) (ty := ty) ha hs hu hc (hok p (by simp)) (hok n (by simp)) hd
        refine ⟨v', w', .inl ?_, h2⟩
        simp only [execOp, resolve, Sem.run_bind, Sem.run_pure, Result.andThen_ok, invoke, builtin, List.map_toArray, List.map_cons, List.map_nil]
        rw [h1]
        rfl

def resE (P : Program) (N : Nat) (o : Oper) : Option EO := match resE1 P N o with
  | some r => some r
  | none => resE2 P N o
theorem resE_snd {N : Nat} {ts : Fr} {a : Act} {o : Oper} {r : EO} {v : Value} {m' : Mem} (hr : resE P N o = some r) (ha : AR G N ts a) (hs : St P w0 G m w) (hd : dE ts m r = some (v, m')) :
    ∃ v' w', OkOp P a o w v' w' ∧ Leaves P w0 w G v m' v' w' := by
  unfold resE at hr
  split at hr
  · rename_i r' h
    simp at hr; subst hr
    exact resE1_snd h ha hs hd
  · exact resE2_snd hr ha hs hd
end
end Go.Proofs.YtgfkjldohilmkaaDoor.Ab
