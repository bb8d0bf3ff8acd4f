/- What is read of an argument lies in the abstract memory, typed. -/
import Derived.Test.YtgfkjldohilmkaaDoorAb18
set_option linter.unusedVariables false
set_option linter.unusedSimpArgs false
namespace Go.Proofs.YtgfkjldohilmkaaDoor.Ab
open Go Go.RowKit

section
variable {P : Program} {W : World} {H : Type} {enc : TypeId × Value → H}

theorem VRs.flat_append {G : Loc} {a b c d : List Value} (h : VRs G a b) (k : VRs G c d) : VRs G (a ++ c) (b ++ d) := VRs.append h k

def Laid (P : Program) (W : World) (s : Shp) (d : DataW H) (cs : List Value) : Prop := ∀ G m, St P W G m W → ∃ G' m' cs' td, Grow G m G' m' ∧ St P W G' m' W ∧ VRs G' cs' cs ∧ AbsT m' td cs' ∧ Fits s td ∧ td.bulk ≤ Rows.uptoBulk d

theorem laid_all : ∀ (items : List (Shp × DataW H × List Value)), (∀ x ∈ items, Laid P W x.1 x.2.1 x.2.2) → ∀ G m, St P W G m W →
    ∃ G' m' cs' l, Grow G m G' m' ∧ St P W G' m' W ∧ VRs G' cs' (items.flatMap (·.2.2)) ∧ AbsTs m' l cs' ∧ FitsL (items.map (·.1)) l ∧ TD.bulks l ≤ Rows.uptoBulkAll (items.map (·.2.1))
  | [], _, G, m, hs => ⟨G, m, [], [], .refl G m, hs, .nil, .nil, by simp [FitsL], by simp [TD.bulks, Rows.uptoBulkAll]⟩
  | x :: items, h, G, m, hs => by
    obtain ⟨G1, m1, c1, td, g1, s1, v1, a1, f1, b1⟩ := h x (by simp) G m hs
    obtain ⟨G2, m2, c2, l, g2, s2, v2, a2, f2, b2⟩ := laid_all items (fun y hy => h y (by simp [hy])) G1 m1 s1
    refine ⟨G2, m2, c1 ++ c2, td :: l, g1.trans g2, s2, ?_, .cons _ _ _ _ (a1.mono g2.2.1 g2.2.2) a2, ?_, ?_⟩
    · simp only [List.flatMap_cons]
      exact (v1.mono g2.1).append v2
    · simp only [List.map_cons, FitsL]
      exact ⟨f1, f2⟩
    · simp only [List.map_cons, TD.bulks, Rows.uptoBulkAll]
      omega

theorem fitsL_rep {s : Shp} : ∀ {l : List TD} {ss : List Shp}, (∀ x ∈ ss, x = s) → FitsL ss l → ∀ x ∈ l, Fits s x
  | [], _, _, _, x, hx => by cases hx
  | d :: l, [], _, h, x, hx => by simp [FitsL] at h
  | d :: l, t :: ss, hs, h, x, hx => by
    simp only [FitsL] at h
    obtain ⟨h1, h2⟩ := h
    rcases List.mem_cons.1 hx with rfl | hx
    · rw [hs t (by simp)] at h1; exact h1
    · exact fitsL_rep (fun y hy => hs y (by simp [hy])) h2 x hx

theorem fitsL_len : ∀ {l : List TD} {ss : List Shp}, FitsL ss l → l.length = ss.length
  | [], [], _ => rfl
  | _ :: _, [], h => by simp [FitsL] at h
  | [], _ :: _, h => by simp [FitsL] at h
  | _ :: l, _ :: ss, h => by simp only [FitsL] at h; simp [fitsL_len h.2]

/-- Chunks of cells, one behind the other. -/
theorem chunks {a : Addr} {z : Nat} {chunk : Nat → List Value} (ha : a.spot = none) : ∀ (k : Nat), (∀ i, i < k → W.cells? 0 (a.add (i * z)) z = some (chunk i)) →
    ((List.range k).flatMap chunk).length = k * z ∧ ∀ (j : Nat) (v : Value), ((List.range k).flatMap chunk)[j]? = some v → W.cell? ⟨a.block, a.off + j, none⟩ = some v
  | 0, _ => by simp
  | k + 1, h => by
    obtain ⟨h1, h2⟩ := chunks (chunk := chunk) ha k fun i hi => h i (by omega)
    obtain ⟨_, hl, hc⟩ := World.cells?_some (h k (by omega))
    rw [List.range_succ, List.flatMap_append]
    simp only [List.flatMap_cons, List.flatMap_nil, List.append_nil]
    refine ⟨by rw [List.length_append, h1, hl, Nat.add_mul]; omega, fun j v hj => ?_⟩
    rw [List.getElem?_append] at hj
    split at hj
    · exact h2 j v hj
    · rename_i hlt
      rw [h1] at hlt hj
      have hjz : j - k * z < z := by
        have := (List.getElem?_eq_some_iff.1 hj).1
        omega
      have := hc (j - k * z) hjz
      rw [hj] at this
      rw [← this]
      obtain ⟨B, o, sp⟩ := a
      simp only at ha
      subst ha
      simp only [Addr.add_lit]
      rw [show o + k * z + (j - k * z) = o + j from by omega]

/-- A struct's fields, one behind the other. -/
theorem fields_laid {n k : Nat} {cs : List Value} (ih : ∀ {k : Nat} {t : TypeId} {s : Shp} {c : List Value} {x : DataW H × List MemPlace}, shpOf P k t = some s → DataW.trod enc P W 0 (fun _ => true) true n t c = some x → Laid P W s x.1 c) :
    ∀ (fs : List Field) (ss : List Shp) (xs : List (DataW H × List MemPlace)) (o : Nat), fs.mapM (fun f => shpOf P k f.type) = some ss → offsOk P o fs ss = true → xs.length = fs.length →
      (∀ (i : Nat) (f : Field), fs[i]? = some f → DataW.trod enc P W 0 (fun _ => true) true n f.type ((cs.drop f.offset).take (P.cellsOf f.type)) = xs[i]?) →
      ∃ items : List (Shp × DataW H × List Value), items.map (·.1) = ss ∧ items.map (·.2.1) = xs.map (·.1) ∧ items.flatMap (·.2.2) = (cs.drop o).take (Shp.sizes ss) ∧ ∀ x ∈ items, Laid P W x.1 x.2.1 x.2.2
  | [], ss, xs, o, hs, ho, hl, hx => by
    simp at hs; subst hs
    have : xs = [] := by simpa using hl
    subst this
    exact ⟨[], rfl, rfl, by simp [Shp.sizes], by simp⟩
  | f :: fs, ss, [], o, hs, ho, hl, hx => by simp at hl
  | f :: fs, ss, x :: xs, o, hs, ho, hl, hx => by
    simp only [List.mapM_cons, Option.bind_eq_bind, Option.pure_def] at hs
    cases hf : shpOf P k f.type with
    | none => simp [hf] at hs
    | some s =>
      cases hr : fs.mapM (fun f => shpOf P k f.type) with
      | none => simp [hf, hr] at hs
      | some ss' =>
        simp [hf, hr] at hs
        subst hs
        simp only [offsOk, Bool.and_eq_true, beq_iff_eq] at ho
        obtain ⟨⟨ho1, ho2⟩, ho3⟩ := ho
        have h0 := hx 0 f (by simp)
        simp only [List.getElem?_cons_zero] at h0
        obtain ⟨items, i1, i2, i3, i4⟩ := fields_laid ih fs ss' xs (o + s.size) hr ho3 (by simpa using hl) fun i g hg => by
          have := hx (i + 1) g (by simpa using hg)
          simpa using this
        refine ⟨(s, x.1, (cs.drop f.offset).take (P.cellsOf f.type)) :: items, by simp [i1], by simp [i2], ?_, ?_⟩
        · simp only [List.flatMap_cons, i3, ho1, ho2, Shp.sizes]
          rw [← List.drop_drop, List.take_add]
        · intro y hy
          rcases List.mem_cons.1 hy with rfl | hy
          · exact ih hf h0
          · exact i4 y hy

theorem open_T : ∀ (n : Nat) {k : Nat} {t : TypeId} {s : Shp} {cs : List Value} {x : DataW H × List MemPlace}, shpOf P k t = some s → DataW.trod enc P W 0 (fun _ => true) true n t cs = some x → Laid P W s x.1 cs := by
  intro n
  induction n with
  | zero => intro k t s cs x hs h; simp [DataW.trod] at h
  | succ n ih =>
    intro k t s cs x hs h G m hst
    cases k with
    | zero => simp [shpOf] at hs
    | succ k =>
      unfold shpOf at hs
      split at hs
      · rename_i ht
        simp at hs; subst hs
        obtain ⟨b, rfl, rfl⟩ := DataW.trod_bool ht h
        exact ⟨G, m, [.bool b], .bool b, .refl G m, hst, .cons _ _ _ _ (.bool b) .nil, .bool b, by simp [Fits], by simp [TD.bulk, Rows.uptoBulk]⟩
      · rename_i kk ht
        simp at hs; subst hs
        obtain ⟨z, rfl, rfl, hz⟩ := DataW.trod_int ht h
        exact ⟨G, m, [.int kk z], .int kk z, .refl G m, hst, .cons _ _ _ _ (.int kk z) .nil, .int kk z, by simp [Fits, hz], by simp [TD.bulk, Rows.uptoBulk]⟩
      · rename_i ht
        simp at hs; subst hs
        obtain ⟨z, rfl, rfl, hz⟩ := DataW.trod_string ht h
        refine ⟨G, m, [.string z], .str z, .refl G m, hst, .cons _ _ _ _ (.str z) .nil, .str z, by simpa [Fits] using hz, ?_⟩
        have e : z.data.toList.length = z.size := by rw [Array.length_toList]; rfl
        simp only [TD.bulk, Rows.uptoBulk]; omega
      · rename_i e ht
        split at hs
        case h_2 => cases hs
        rename_i se hse
        split at hs
        case isFalse => cases hs
        rename_i hz
        simp at hs; subst hs
        obtain ⟨hz1, hz2⟩ := hz
        rcases DataW.trod_slice ht h with ⟨rfl, rfl⟩ | ⟨a, len, cap, elems, rest, n', hn', rfl, rfl, hb, hl, hm, hlen, hel, hsp, -⟩
        · exact ⟨G, m, [.slice none 0 0], .sl [], .refl G m, hst, .cons _ _ _ _ .nils .nil, .sl [] _ [] 1 ⟨by simp, .inl ⟨rfl, .inl rfl⟩⟩ (fun _ => .inl rfl) (fun b hb => by simp [blk] at hb) .nil, by simp [Fits], by simp [TD.bulk, TD.bulks, Rows.uptoBulk]⟩
        · cases hn'
          rw [hz1] at hel hsp
          obtain ⟨hrl, hr⟩ := hsp rfl
          by_cases h0 : len = 0
          · subst h0
            exact ⟨G, m, [.slice (some ⟨0, 0, some 0⟩) 0 0], .sl [], .refl G m, hst, .cons _ _ _ _ (.empty a cap hm) .nil, .sl [] _ [] 1 ⟨by simp, .inl ⟨rfl, .inr rfl⟩⟩ (fun _ => .inr rfl) (fun b hb => by simp [blk] at hb) .nil, by simp [Fits], by simp [TD.bulk, TD.bulks, Rows.uptoBulk]⟩
          · let chunk : Nat → List Value := fun i => (W.cells? 0 (a.add (i * se.size)) se.size).getD []
            have hch : ∀ i, i < cap → W.cells? 0 (a.add (i * se.size)) se.size = some (chunk i) := by
              intro i hi
              have : (W.cells? 0 (a.add (i * se.size)) se.size) ≠ none := by
                intro hn
                by_cases hil : i < len
                · have := hel i hil
                  rw [hn] at this
                  simp at this
                  omega
                · have := hr (i - len) (by omega)
                  rw [show len + (i - len) = i from by omega, hn] at this
                  simp at this
                  omega
              obtain ⟨c, hc⟩ := Option.ne_none_iff_exists'.1 this
              simp [chunk, hc]
            have hsz : se.size ≠ 0 := by omega
            have hspot : a.spot = none := by
              obtain ⟨_, hl0, hc0⟩ := World.cells?_some (hch 0 (by omega))
              have := hc0 0 hz2
              simp only [Nat.zero_mul, Addr.add, if_true] at this
              cases hsp' : a.spot with
              | none => rfl
              | some q =>
                exfalso
                have hlt : 0 < (chunk 0).length := by omega
                rw [List.getElem?_eq_getElem hlt] at this
                unfold World.cell? at this
                split at this
                · simp [hsp'] at this
                · cases this
            let items : List (Shp × DataW H × List Value) := (List.range len).map fun i => (se, ((elems[i]?).map (·.1)).getD .nil, chunk i)
            have hitems : ∀ y ∈ items, Laid P W y.1 y.2.1 y.2.2 := by
              intro y hy
              obtain ⟨i, hi, rfl⟩ := List.mem_map.1 hy
              have hi' : i < len := by simpa using hi
              have := hel i hi'
              rw [hch i (by omega)] at this
              have hie : i < elems.length := by omega
              rw [List.getElem?_eq_getElem hie] at this
              simp only [Option.bind_some] at this
              simp only [List.getElem?_eq_getElem hie, Option.map_some, Option.getD_some]
              exact ih hse this
            obtain ⟨G1, m1, c1, l, g1, s1, v1, a1, f1, b1⟩ := laid_all items hitems G m hst
            have e1 : items.flatMap (·.2.2) = (List.range len).flatMap chunk := by simp [items, List.flatMap_map]
            have e2 : items.map (·.2.1) = elems.map (·.1) := by
              apply List.ext_getElem?
              intro i
              simp only [items, List.map_map, List.getElem?_map]
              by_cases hi : i < len
              · have hie : i < elems.length := by omega
                simp [hi, List.getElem?_eq_getElem hie]
              · rw [List.getElem?_eq_none (by simp; omega), List.getElem?_eq_none (by omega)]
                rfl
            rw [e1] at v1
            rw [e2] at b1
            have hll : l.length = len := by rw [fitsL_len f1]; simp [items]
            obtain ⟨q1, q2⟩ := chunks (W := W) (a := a) (z := se.size) (chunk := chunk) hspot len fun i hi => hch i (by omega)
            have hc1 : c1.length = len * se.size := by rw [← v1.length, q1]
            -- the block, and how many cells it has
            obtain ⟨_, hll1, hlc1⟩ := World.cells?_some (hch (cap - 1) (by omega))
            have hlast := hlc1 (se.size - 1) (by omega)
            rw [List.getElem?_eq_getElem (by omega)] at hlast
            obtain ⟨B, o, sp⟩ := a
            simp only at hspot
            subst hspot
            rw [Addr.add_lit, Addr.add_lit] at hlast
            unfold World.cell? at hlast
            split at hlast
            case h_2 => cases hlast
            rename_i cc ee ff hheap
            simp only [Option.isSome_none, Bool.false_eq_true, if_false] at hlast
            have hS := (Array.getElem?_eq_some_iff.1 hlast).1
            have hB : B < W.heap.size := (Array.getElem?_eq_some_iff.1 hheap).1
            have hS2 : o + cap * se.size ≤ cc.size := by
              have : cap * se.size = (cap - 1) * se.size + se.size := by
                rw [← Nat.succ_mul]; congr 1; omega
              omega
            obtain ⟨g2, s2⟩ := s1.look (B := B) (b := o) (S := cc.size) (cs := c1) hB fun j v hj => by
              obtain ⟨v', hv1, hv2⟩ := v1.get j v hj
              exact ⟨v', q2 j v' hv1, hv2⟩
            refine ⟨_, _, [.slice (some ⟨m1.next, 0, none⟩) len se.size], .sl l, g1.trans ⟨g2, by simp, fun i hi => Mem.push_old _ _ hi⟩, s2, .cons _ _ _ _ ?_ .nil, ?_, ?_, ?_⟩
            · have := VR.sl (G := fun i => if i = m1.next then some (B, o, cc.size) else G1 i) m1.next 0 B o cc.size len cap se.size (by simp) hl hm (by omega)
              simpa using this
            · refine .sl l _ c1 se.size ⟨by rw [hll]; exact hc1, .inr ⟨m1.next, 0, c1, by rw [hll], by simp [Ent.cells?], by rw [hll]; omega, by rw [hll, ← hc1]; simp⟩⟩ (fun e => by subst e; simp at hll; omega) (fun b hb => by simp [blk] at hb; subst hb; simp) (a1.mono (by simp) fun i hi => Mem.push_old _ _ hi)
            · exact fitsL_rep (fun y hy => by simp [items] at hy; exact hy.2.symm) f1
            · simp only [TD.bulk, Rows.uptoBulk]; omega
      · rename_i fs ht
        split at hs
        case h_2 => cases hs
        rename_i ss hss
        split at hs
        case isFalse => cases hs
        rename_i ho
        simp at hs; subst hs
        obtain ⟨xs, n', hn', rfl, hcl, hxl, hx⟩ := DataW.trod_struct ht h
        cases hn'
        obtain ⟨items, i1, i2, i3, i4⟩ := fields_laid (cs := cs) (n := n) (k := k) ih fs.toList ss xs 0 hss ho.1 (by simpa using hxl) fun i f hf => hx i f (by simpa using hf)
        obtain ⟨G1, m1, c1, l, g1, s1, v1, a1, f1, b1⟩ := laid_all items i4 G m hst
        rw [i3] at v1
        rw [i2] at b1
        rw [i1] at f1
        have e3 : (cs.drop 0).take (Shp.sizes ss) = cs := by rw [List.drop_zero, ← ho.2, ← hcl, List.take_length]
        rw [e3] at v1
        exact ⟨G1, m1, c1, .recd l, g1, s1, v1, .recd l c1 a1, by simpa [Fits] using f1, by simp only [TD.bulk, Rows.uptoBulk]; omega⟩
      · cases hs
end
end Go.Proofs.YtgfkjldohilmkaaDoor.Ab
