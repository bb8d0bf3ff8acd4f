/- The rest of the operations that make or write memory, and the table to them. -/
import Derived.Test.YtgfkjldohilmkaaDoorAb7
import Derived.Laws.MakeOwn
import Derived.Laws.IdiomStrings
set_option linter.unusedVariables false
set_option linter.unusedSimpArgs false
namespace Go.Proofs.YtgfkjldohilmkaaDoor.Ab
open Go Go.RowKit

section
variable {P : Program} {w0 w : World} {G : Loc} {m : Mem}

theorem made_one (z : Value) (n : Nat) (hz : z.cells = #[z]) : (madeCells z.cells n).toList = List.replicate n z := by
  rw [hz]
  unfold madeCells
  apply List.ext_getElem?
  intro j
  simp only [Array.toList_map, Array.toList_range, List.getElem?_map, List.getElem?_range, List.getElem?_replicate]
  by_cases hj : j < n
  · simp [hj, List.getElem?_range, Nat.mod_one]
  · simp [hj, List.getElem?_range]

theorem snd_mks (hs : St P w0 G m w) {N : Nat} {ts : Fr} {a : Act} (ha : AR G N ts a) {t e : TypeId} {i : TypeInfo} {z : Value} (ht : P.underlying t = some (.slice e)) (hi : P.info? e = some i) (hz : i.zero = some z) (hsz : i.size = 1) (hzc : z.cells = #[z]) (hp : plainV 6 z = true)
    {x y : Operand} (hx : okX P N x = true) (hy : okX P N y = true) {v : Value} {m' : Mem} (h : dE ts m (.mks e i.bytes z x y) = some (v, m')) :
    ∃ v' w', (Instr.makeSlice t (a.eval x) (a.eval y)).run P w = .ok v' w' ∧ Leaves P w0 w G v m' v' w' := by
  have vx := ev_VR ha hs x hx
  have vy := ev_VR ha hs y hy
  simp only [dE] at h
  split at h
  · rename_i p q hp1 hq
    rw [hp1] at vx; rw [hq] at vy
    split at h
    case isFalse => cases h
    rename_i hc
    obtain ⟨h0, h1, h2, h3⟩ := hc
    simp at h
    obtain ⟨rfl, rfl⟩ := h
    generalize a.eval x = X at *
    generalize a.eval y = Y at *
    cases vx; cases vy
    have hr := run_make (P := P) w t e i z ht hi hz .i64 .i64 p q h0 h1 (by omega) (by unfold maxLen at h3; omega)
    refine ⟨_, _, hr, ?_⟩
    have hm := made_one z (q.toNat * i.size) hzc
    have e1 : madeCells z.cells (q.toNat * i.size) = ⟨List.replicate p.toNat z ++ List.replicate (q.toNat - p.toNat) z⟩ := by
      apply Array.ext'
      rw [hm, hsz, Nat.mul_one, List.replicate_append_replicate]
      congr 1; omega
    rw [e1]
    have hn := own_new hs (e := e) (cs := List.replicate p.toNat z) (cs' := List.replicate p.toNat z) (extra := List.replicate (q.toNat - p.toNat) z) (0, 0) (open00 _) (VRs.refl_of _ fun u hu => by rw [(List.mem_replicate.1 hu).2]; exact VR.plain 6 z hp)
    refine ⟨_, hn.1, ?_, hn.2⟩
    refine .sl _ _ _ _ ((List.replicate p.toNat z ++ List.replicate (q.toNat - p.toNat) z).length) _ _ _ (by simp) (by omega) (by omega) (by simp; omega)
  · cases h

theorem snd_s2b (hs : St P w0 G m w) {N : Nat} {ts : Fr} {a : Act} (ha : AR G N ts a) {s t e : TypeId} (hsrc : P.underlying s = some .string) (hdst : P.underlying t = some (.slice e)) (he : P.underlying e = some (.int .u8)) {x : Operand} (hx : okX P N x = true) {v : Value} {m' : Mem}
    (h : dE ts m (.s2b e x) = some (v, m')) : ∃ v' w', (convert s t (a.eval x)).run P w = .ok v' w' ∧ Leaves P w0 w G v m' v' w' := by
  have vx := ev_VR ha hs x hx
  simp only [dE] at h
  split at h
  · rename_i q hq
    rw [hq] at vx
    split at h
    case isFalse => cases h
    rename_i hsz
    simp at h
    obtain ⟨rfl, rfl⟩ := h
    generalize a.eval x = X at *
    cases vx
    have hs2 : St P w0 G m w.drew := hs.same rfl rfl rfl rfl
    have hcap := grownCap_ge w q.size 0 e
    have hcm := grownCap_le_maxLen w q.size 0 e (by unfold maxLen; omega)
    have hn := own_new hs2 (e := e) (cs := q.data.toList.map byteV) (cs' := q.data.toList.map byteV) (extra := List.replicate (grownCap w q.size 0 e - q.size) (.int .u8 0)) (q.size + (grownCap w q.size 0 e - q.size), q.size + (grownCap w q.size 0 e - q.size) + 1)
      (by intro o ho hf; simp [ByteArray.toList_eq] at ho; omega) (byteV_flat _)
    have ec : (⟨q.data.toList.map byteV ++ List.replicate (grownCap w q.size 0 e - q.size) (.int .u8 0)⟩ : Array Value) = bytesRow q (grownCap w q.size 0 e) := by
      apply Array.ext'
      simp [byteV, ByteArray.toList_eq, bytesRow]
    have hsize : (bytesRow q (grownCap w q.size 0 e)).size = q.size + (grownCap w q.size 0 e - q.size) := by
      rw [← ec]; simp [ByteArray.toList_eq]
    have hr := run_bytes_of_string (P := P) w s t e q hsrc hdst he
    rw [hsize, ← ec] at hr
    rw [hr]
    refine ⟨_, _, rfl, _, hn.1, ?_, hn.2⟩
    refine .sl _ _ _ _ ((q.data.toList.map byteV ++ List.replicate (grownCap w q.size 0 e - q.size) (Value.int .u8 0)).length) _ _ _ (by simp) hcap hcm (by simp [ByteArray.toList_eq]; omega)
  · cases h

/-- The first elements of a slice, as cells. -/
theorem snd_first (hs : St P w0 G m w) {sz k : Nat} {x x' : Value} {ys : List Value} (hx : VR G x x') (h : elemsV m sz x = some ys) (hk : k ≤ lenV x) :
    ∃ ys' : List Value, (Builtin.firstCells sz k x').run P w = .ok ys'.toArray w ∧ VRs G (ys.take (k * sz)) ys' ∧ (Builtin.lenOf x').run P w = .ok (lenV x) w ∧ ys.length = lenV x * sz := by
  unfold elemsV at h
  split at h
  · simp at h; subst h
    cases hx
    simp [lenV] at hk
    subst hk
    exact ⟨[], by simp [Builtin.firstCells], by simpa using VRs.nil, by simp [Builtin.lenOf, lenV], by simp [lenV]⟩
  · simp at h; subst h
    cases hx
    simp [lenV] at hk
    subst hk
    exact ⟨[], by simp [Builtin.firstCells, loadCells, loadCellsFrom], by simpa using VRs.nil, by simp [Builtin.lenOf, lenV], by simp [lenV]⟩
  · rename_i i o n c
    simp only [lenV] at hk
    cases hx with
    | sl _ _ B b S _ cp z hg hn hc hS =>
      obtain ⟨cs', h1, h2, h3⟩ := hs.row hg h
      have hkl : k * sz ≤ n * sz := Nat.mul_le_mul_right _ hk
      have hl := run_loadCells_list (P := P) (w := w) ⟨B, b + o, none⟩ (cs'.take (k * sz)) (fun j v hj => by
        rw [List.getElem?_take] at hj
        split at hj
        · exact h3 j v hj
        · cases hj)
      have e1 : (cs'.take (k * sz)).length = k * sz := by simp; omega
      rw [e1] at hl
      exact ⟨cs'.take (k * sz), by simp [Builtin.firstCells, hl], h2.take _, by simp [Builtin.lenOf, lenV], by rw [← h2.length, h1]; simp [lenV]⟩
  · rename_i s
    split at h
    · rename_i hsz
      subst hsz
      simp at h; subst h
      cases hx
      refine ⟨(s.data.toList.map byteV).take (k * 1), ?_, (byteV_flat _).take _, by simp [Builtin.lenOf, lenV], by simp [lenV, ByteArray.toList_eq]⟩
      simp only [Builtin.firstCells, Sem.run_pure, ByteArray.toList_eq]
      congr 1
      apply Array.ext'
      simp
      rfl
    · cases h
  · cases h

theorem snd_cpy {N : Nat} {ts : Fr} {a : Act} (ha : AR G N ts a) (hs : St P w0 G m w) {t t2 ty e : TypeId} {i : TypeInfo} (ht : P.underlying t = some (.slice e)) (hi : P.info? e = some i)
    {x y : Operand} (hx : okX P N x = true) (hy : okX P N y = true) {v : Value} {m' : Mem} (h : dE ts m (.cpy i.size x y) = some (v, m')) :
    ∃ v' w', (Builtin.copy_ #[t, t2] ty #[a.eval x, a.eval y]).run P w = .ok v' w' ∧ Leaves P w0 w G v m' v' w' := by
  have vx := ev_VR ha hs x hx
  have vy := ev_VR ha hs y hy
  simp only [dE] at h
  split at h
  · rename_i ys j o n z hys hx'
    rw [hx'] at vx
    split at h
    case h_2 => cases h
    rename_i cs e' hown
    split at h
    case isFalse => cases h
    rename_i hc
    simp at h
    obtain ⟨rfl, rfl⟩ := h
    obtain ⟨ys', h1, h2, h3, h4⟩ := snd_first hs (k := min (lenV (ev ts y)) n) vy hys (by omega)
    generalize a.eval x = X at *
    generalize a.eval y = Y at *
    cases vx with
    | sl _ _ B b S _ cp _ hg hn hcp hS =>
      have hlen : (ys.take (min (lenV (ev ts y)) n * i.size)).length = min (lenV (ev ts y)) n * i.size := by
        have : min (lenV (ev ts y)) n * i.size ≤ lenV (ev ts y) * i.size := Nat.mul_le_mul_right _ (by omega)
        simp; omega
      obtain ⟨w', hr, hst⟩ := snd_put (o := o) hs hg hown (by rw [hlen]; exact hc.1) h2 (by
        rw [List.all_eq_true]
        intro v hv
        have := hc.2
        rw [List.all_eq_true] at this
        exact this v (List.mem_of_mem_take hv))
      refine ⟨.int .i64 (min (lenV (ev ts y)) n : Nat), w', ?_, G, Loc.le_refl G, .int _ _, hst⟩
      have e1 : Nat.min (lenV (ev ts y)) n = min (lenV (ev ts y)) n := rfl
      simp [Builtin.copy_, run_underlying ht, run_sizeOf hi, h3, e1, h1, hr, goInt]
  · rename_i ys q z _ hys hx'
    rw [hx'] at vx
    simp at h
    obtain ⟨rfl, rfl⟩ := h
    obtain ⟨ys', h1, h2, h3, h4⟩ := snd_first hs (k := 0) vy hys (by omega)
    simp at h2
    cases h2
    generalize a.eval x = X at *
    generalize a.eval y = Y at *
    refine ⟨.int .i64 0, w, ?_, G, Loc.le_refl G, .int _ _, hs⟩
    cases vx <;> simp [Builtin.copy_, run_underlying ht, run_sizeOf hi, h3, Nat.min_zero, h1, goInt, storeCells]
  · cases h

theorem snd_bsl (hs : St P w0 G m w) {N : Nat} {ts : Fr} {a : Act} (ha : AR G N ts a) {t e : TypeId} {i : TypeInfo} {z : Value} {len : Nat} {parts : Array (Nat × Operand)} (ht : P.underlying t = some (.slice e)) (hi : P.info? e = some i) (hz : i.zero = some z) (hlen : len * i.size ≤ 16777216)
    (hp : (madeCells z.cells (len * i.size)).toList.all (plainV 6) = true) (hpos : 0 < len * i.size) (hok : (parts.toList.all fun p => okX P N p.2) = true) {v : Value} {m' : Mem}
    (h : dE ts m (.bsl e i.size len (madeCells z.cells (len * i.size)).toList (parts.toList.map fun p => (p.1 * i.size, i.size, p.2))) = some (v, m')) :
    ∃ v' w', (Instr.buildSlice t len (parts.map fun (i, x) => (i, a.eval x))).run P w = .ok v' w' ∧ Leaves P w0 w G v m' v' w' := by
  simp only [dE] at h
  split at h
  · rename_i cs hf
    split at h
    case isFalse => cases h
    rename_i hcl
    simp at h
    obtain ⟨rfl, rfl⟩ := h
    have hz0 : VRs G (madeCells z.cells (len * i.size)).toList (madeCells z.cells (len * i.size)).toList := by
      rw [List.all_eq_true] at hp
      exact VRs.refl_of _ fun u hu => VR.plain 6 u (hp u hu)
    obtain ⟨r', hr1, hr2⟩ := fill_snd ha hs (fun q => some (q * i.size, i.size)) parts.toList _ hok (by simp) (fun p hp => rfl) _ _ cs hz0 hf
    have hn := own_new hs (e := e) (cs' := r') (extra := []) (0, 0) (open00 _) hr2
    have emap : ((parts.map fun (i, x) => (i, a.eval x)).toList) = parts.toList.map fun p => (p.1, a.eval p.2) := by simp
    have hml : len ≤ maxLen := by
      have h0 : 0 < i.size := by
        rcases Nat.eq_zero_or_pos i.size with h0 | h0
        · rw [h0] at hpos; simp at hpos
        · exact h0
      have : len * 1 ≤ len * i.size := Nat.mul_le_mul_left _ h0
      unfold maxLen; omega
    have hne : ¬ (len * i.size > 2 ^ 24) := by omega
    have hne2 : ¬ (len * i.size = 0) := by omega
    refine ⟨.slice (some ⟨w.heap.size, 0, none⟩) len len, w.alloc (.cells ⟨r'⟩ e), ?_, _, hn.1, ?_, by simpa using hn.2⟩
    · have hr1' : Instr.fill (fun q => some (q * i.size, i.size)) (Array.map (fun x => z.cells[x % z.cells.size]!) (Array.range (len * i.size))) (parts.toList.map fun p => (p.1, a.eval p.2)) = some ⟨r'⟩ := hr1
      simp [Instr.buildSlice, run_underlying ht, run_sizeOf hi, hne, hne2, zeroValue, typeInfo, hi, hz, hr1', newRow]
    · refine .sl _ _ _ _ ((r' ++ []).length) _ _ _ (by simp) (Nat.le_refl _) hml (by simp [hr2.length, hcl])
  · cases h
end
end Go.Proofs.YtgfkjldohilmkaaDoor.Ab
