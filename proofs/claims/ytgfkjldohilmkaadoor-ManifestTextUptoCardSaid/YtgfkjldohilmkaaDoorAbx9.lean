/- unsafe.String: the bytes of a row as a text; the row is given up. -/
import Derived.Test.YtgfkjldohilmkaaDoorAb9
set_option linter.unusedVariables false
set_option linter.unusedSimpArgs false
namespace Go.Proofs.YtgfkjldohilmkaaDoor.Ab
open Go Go.RowKit

def resE2 (P : Program) (N : Nat) (o : Oper) : Option EO :=
  if o.op.operands.all (okX P N) then
    match o.op with
    | .call { callee := .builtin .unsafeString, args, argTypes } => match args.toList, argTypes.toList with
      | [p, n], [t, _] => match P.underlying t with
        | some (.pointer e) => if P.cellsOf e = 1 then some (.ust e p n) else none
        | _ => none
      | _, _ => none
    | _ => none
  else none

section
variable {P : Program} {w0 w : World} {G : Loc} {m : Mem}

theorem run_loadB : ∀ (ns : List Int) (a : Addr) (acc : ByteArray), (∀ (j : Nat) (n : Int), ns[j]? = some n → w.cell? (a.add j) = some (.int .u8 n)) →
    (loadBytes a acc ns.length).run P w = .ok ⟨acc.data ++ (ns.map fun n => UInt8.ofNat n.toNat).toArray⟩ w
  | [], a, acc, _ => by simp [loadBytes]
  | x :: l, a, acc, h => by
    have h0 : w.cell? a = some (.int .u8 x) := by
      have := h 0 x rfl
      simpa [Addr.add] using this
    have ih := run_loadB l (a.add 1) (acc.push (UInt8.ofNat x.toNat)) (fun j y hy => by
      have := h (j + 1) y (by simpa using hy)
      have e : (a.add 1).add j = a.add (j + 1) := by
        unfold Addr.add
        by_cases hj : j = 0
        · subst hj; simp
        · simp [hj]; omega
      rw [e]; exact this)
    simp only [List.length_cons, loadBytes, Sem.run_bind, run_load, h0, Result.andThen, Nat.toUInt8]
    show (loadBytes (a.add 1) (acc.push (UInt8.ofNat x.toNat)) l.length).run P w = _
    rw [ih]
    congr 1
    apply ByteArray.ext
    simp [ByteArray.push]

theorem run_ust (pt it ty e : TypeId) (hp : P.underlying pt = some (.pointer e)) (hc : P.cellsOf e = 1) (g o cells : Nat) (hsh : w.shape? g = some (e, cells)) (ns : List Int) (h0 : ns.length ≠ 0) (hn : o + ns.length ≤ cells) (h63 : ns.length ≤ 9223372036854775807)
    (hcell : ∀ (j : Nat) (n : Int), ns[j]? = some n → w.cell? ((⟨g, o, none⟩ : Addr).add j) = some (.int .u8 n)) :
    (Builtin.unsafeString_ #[pt, it] ty #[.pointer (some ⟨g, o, none⟩), .int .i64 ns.length]).run P w = .ok (.string ⟨(ns.map fun n => UInt8.ofNat n.toNat).toArray⟩) (w.freeze ⟨g, o, none⟩ ns.length) := by
  have hlb := run_loadB (P := P) (w := w) ns ⟨g, o, none⟩ .empty hcell
  have hlies : liesAt P P.depth e (cells / P.cellsOf e) o e ns.length = true := liesAt_at _ _ _ (by rw [hc]; omega) (by rw [hc]; exact Nat.mod_one _) (by rw [hc]; simpa using hn)
  have h63' : ¬ (9223372036854775807 : Int) < (ns.length : Int) := by omega
  have hdef : Builtin.unsafeString_ #[pt, it] ty #[.pointer (some ⟨g, o, none⟩), .int .i64 ns.length] =
      (do
        let n ← asInt (.int .i64 ns.length)
        if n < 0 then runtimePanic (.error "unsafe.String: len out of range")
        if n > IntKind.i64.max then unsupported (.unsafePointer "String: a length above the largest int")
        if n = 0 then pure (.string .empty)
        else if ← variablesAt ⟨g, o, none⟩ (← elemOf pt) n.toNat then do
          let s ← loadBytes ⟨g, o, none⟩ .empty n.toNat
          freeze ⟨g, o, none⟩ n.toNat
          pure (.string s)
        else unsupported (.unsafePointer "String: not so many bytes at ptr")) := rfl
  rw [hdef]
  have hmax : IntKind.i64.max = 9223372036854775807 := rfl
  have hneg : ¬ (ns.length : Int) < 0 := by omega
  simp [asInt, asIntOf, hmax, h63', hneg, h0, variablesAt, hsh, elemOf, run_underlying hp, hlies, hlb]

theorem freeze_spec (w : World) (g o n : Nat) : (w.freeze ⟨g, o, none⟩ n).os = w.os ∧ (w.freeze ⟨g, o, none⟩ n).tape = w.tape ∧ (w.freeze ⟨g, o, none⟩ n).output = w.output ∧ (w.freeze ⟨g, o, none⟩ n).heap.size = w.heap.size ∧ ∀ k, k ≠ g → (w.freeze ⟨g, o, none⟩ n).heap[k]? = w.heap[k]? := by
  unfold World.freeze
  split
  · exact ⟨rfl, rfl, rfl, rfl, fun _ _ => rfl⟩
  · refine ⟨rfl, rfl, rfl, by simp, fun k hk => ?_⟩
    simp only [Array.getElem?_modify]
    rw [if_neg (fun e => hk e.symm)]

theorem snd_ust {N : Nat} {ts : Fr} {a : Act} (ha : AR G N ts a) (hs : St P w0 G m w) {t it ty e : TypeId} (ht : P.underlying t = some (.pointer e)) (hc : P.cellsOf e = 1) {p n : Operand} (hp : okX P N p = true) (hn : okX P N n = true) {v : Value} {m' : Mem}
    (h : dE ts m (.ust e p n) = some (v, m')) : ∃ v' w', (Builtin.unsafeString_ #[t, it] ty #[a.eval p, a.eval n]).run P w = .ok v' w' ∧ Leaves P w0 w G v m' v' w' := by
  have vp := ev_VR ha hs p hp
  have vn := ev_VR ha hs n hn
  simp only [dE] at h
  split at h
  · rename_i k h1 h2
    rw [h1] at vp; rw [h2] at vn
    split at h
    case isFalse => cases h
    rename_i hk
    simp at h
    obtain ⟨rfl, rfl⟩ := h
    subst hk
    generalize a.eval p = X at *
    generalize a.eval n = Y at *
    cases vp; cases vn
    exact ⟨_, w, Lib.run_unsafeString_none (P := P) w t it ty none, G, Loc.le_refl G, .str _, hs⟩
  · rename_i i o k h1 h2
    rw [h1] at vp; rw [h2] at vn
    generalize a.eval p = X at *
    generalize a.eval n = Y at *
    cases vn
    cases vp with
    | ptr _ _ B b S hg =>
    split at h
    · rename_i hk
      simp at h
      obtain ⟨rfl, rfl⟩ := h
      subst hk
      exact ⟨_, w, Lib.run_unsafeString_none (P := P) w t it ty (some ⟨B, b + o, none⟩), G, Loc.le_refl G, .str _, hs⟩
    · rename_i hk0
      split at h
      case isFalse => cases h
      rename_i hk
      split at h
      case h_2 => cases h
      rename_i cs e' hown
      split at h
      case isFalse => cases h
      rename_i hcond
      obtain ⟨rfl, hle⟩ := hcond
      split at h
      case h_2 => cases h
      rename_i bs hbs
      simp at h
      obtain ⟨rfl, rfl⟩ := h
      obtain ⟨ns, hns, rfl⟩ := bytesOf_cells hbs
      obtain ⟨c, fz, hw, hcell, hl⟩ := own_real hs hg hown
      have hl := hl (by omega)
      have hlen : ns.length = k.toNat := by
        have := congrArg List.length hns
        simp at this
        omega
      have hsh : w.shape? B = some (e', c.size) := by simp [World.shape?, hw]
      have hrow : m.row i o k.toNat = some (ns.map (Value.int .u8)) := by
        rw [← hns]
        simp [Mem.row, hown, Ent.cells?, hle]
      obtain ⟨cs', r1, r2, r3⟩ := hs.row hg hrow
      have := VRs.ints r2
      subst this
      have hr := run_ust (P := P) (w := w) t it ty e' ht hc B (b + o) c.size hsh ns (by omega) (by omega) (by omega) (fun j q hq => r3 j _ (by simp [hq]))
      have hkn : (ns.length : Int) = k := by omega
      rw [hkn] at hr
      obtain ⟨f1, f2, f3, f4, f5⟩ := freeze_spec w B (b + o) ns.length
      refine ⟨_, _, hr, G, Loc.le_refl G, .str _, ?_⟩
      exact hs.write (e := .dead) (by rw [hown]; rfl) hg f1 f2 f3 f4 f5 trivial (fun _ _ he => by cases he)
  · cases h

theorem resE2_snd {N : Nat} {ts : Fr} {a : Act} {o : Oper} {r : EO} {v : Value} {m' : Mem} (hr : resE2 P N o = some r) (ha : AR G N ts a) (hs : St P w0 G m w) (hd : dE ts m r = some (v, m')) :
    ∃ v' w', OkOp P a o w v' w' ∧ Leaves P w0 w G v m' v' w' := by
  obtain ⟨dst, op, ty, pos, after, guard⟩ := o
  unfold resE2 at hr
  split at hr
  case isFalse => cases hr
  rename_i hok0
  have hok := okX_of hok0
  clear hok0
  cases op <;> simp only [Op.operands] at hok hr <;> try (cases hr; done)
  case call c =>
    obtain ⟨cal, args, argT⟩ := c
    cases cal with
    | value f => simp at hr
    | invoke r mm => simp at hr
    | builtin b =>
      simp only [Call.operands] at hok
      cases b <;> simp only [] at hr <;> first | (cases hr; done) | skip
      case unsafeString =>
        split at hr
        case h_2 => cases hr
        rename_i p n t t2 hargs hty
        split at hr
        case h_2 => cases hr
        rename_i e hu
        split at hr
        case isFalse => cases hr
        rename_i hc
        obtain rfl : args = #[p, n] := by apply Array.ext'; simpa using hargs
        obtain rfl : argT = #[t, t2] := by apply Array.ext'; simpa using hty
        simp at hr; subst hr
        obtain ⟨v', w', h1, h2⟩ := snd_ust (it := t2) (ty := ty) ha hs hu hc (hok p (by simp)) (hok n (by simp)) hd
        refine ⟨v', w', .inl ?_, h2⟩
        simp only [execOp, resolve, Sem.run_bind, Sem.run_pure, Result.andThen_ok, invoke, builtin, List.map_toArray, List.map_cons, List.map_nil]
        rw [h1]
        rfl

def resE (P : Program) (N : Nat) (o : Oper) : Option EO := match resE1 P N o with
  | some r => some r
  | none => resE2 P N o
theorem resE_snd {N : Nat} {ts : Fr} {a : Act} {o : Oper} {r : EO} {v : Value} {m' : Mem} (hr : resE P N o = some r) (ha : AR G N ts a) (hs : St P w0 G m w) (hd : dE ts m r = some (v, m')) :
    ∃ v' w', OkOp P a o w v' w' ∧ Leaves P w0 w G v m' v' w' := by
  unfold resE at hr
  split at hr
  · rename_i r' h
    simp at hr; subst hr
    exact resE1_snd h ha hs hd
  · exact resE2_snd hr ha hs hd
end
end Go.Proofs.YtgfkjldohilmkaaDoor.Ab
