/- Parts of a proof, put together: What sends: as plain functions of what it is; what takes what it sends. -/
import Derived.Test.YthmhappejchilaaGreatDoorKBn3
import Derived.Shelf.Strings.Trim
import Derived.Shelf.Strconv.Itoa1
import Derived.Shelf.LaysM
import Derived.Shelf.Strconv.Itoa2
import Derived.Shelf.Strconv.Itoa3
import Derived.Shelf.LaysC
import Derived.Shelf.Strconv.ToError
import Derived.Shelf.Strconv.ToErrorRange
import Derived.Shelf.Strings.Search1
import Derived.Shelf.Strings.Search2
import Derived.Shelf.Strings.Search3
import Derived.Shelf.Strings.Cut
import Derived.Shelf.Strings.Count
import Derived.Shelf.Strings.Split
import Derived.Test.YthmhappejchilaaGreatDoorProg
import Derived.Lib.AppendIntMem
import Derived.Lib.SplitLaws
import Derived.Lib.TrimByte
import Derived.Lib.IndexBytes
set_option linter.unusedVariables false
set_option linter.unusedSimpArgs false
namespace Go.Proofs.YthmhappejchilaaGreatDoor.Ab
open Go Go.RowKit
set_option maxHeartbeats 4000000
set_option maxRecDepth 100000
abbrev Bk := UInt8 × List UInt8
/-- What sends. phase: 0 start, 1 data, 2 end, 3 over. -/
structure Sn where
  tries : Int
  wait : Int
  blocks : List Bk
  close : Bool
  crc : Bool
  phase : Nat
  at_ : Nat
  tr : Int
  left : Int
  can : Bool
  err : Nat
def snOf (tr wt : Int) (bs : List Bk) (crc close : Bool) : Sn := ⟨clampI 1 9 tr, clampI 1 99 wt, bs, close, crc, 0, 0, 1, clampI 1 99 wt, false, 0⟩
def sEndF (s : Sn) (e : Nat) : Sn × List UInt8 := ({ s with phase := 3, err := e }, if e = 10 then [24, 24] else [])
def fitB (d : List UInt8) : Bool := d.length = 128 ∨ d.length = 1024
noncomputable def sNowF (s : Sn) : Sn × List UInt8 :=
  if s.phase = 1 then (if fitB (s.blocks.getD s.at_ (0, [])).2 = true then (s, blkL (s.blocks.getD s.at_ (0, [])).1 (s.blocks.getD s.at_ (0, [])).2 s.crc) else sEndF s 14)
  else if s.phase = 2 then (s, [4]) else (s, [])
noncomputable def sNextF (s : Sn) : Sn × List UInt8 :=
  if s.at_ < s.blocks.length then sNowF { s with tr := 1, left := s.wait, phase := 1 }
  else if s.close = true ∧ s.phase ≠ 2 then sNowF { s with tr := 1, left := s.wait, phase := 2 }
  else sEndF { s with tr := 1, left := s.wait } 0
noncomputable def sAgainF (s : Sn) : Sn × List UInt8 :=
  if s.tries ≤ s.tr then sEndF s 10 else sNowF { s with tr := s.tr + 1, left := s.wait }
noncomputable def sPutF (s : Sn) (c : UInt8) : Sn × List UInt8 :=
  if s.phase = 3 then ({ s with can := decide (c = 24) }, [])
  else if s.can = true ∧ c = 24 then sEndF { s with can := true } 9
  else if s.phase = 0 ∧ (c = 21 ∨ (c = 67 ∧ s.crc = true)) then sNextF { s with can := decide (c = 24), crc := decide (c = 67) }
  else if s.phase = 0 then ({ s with can := decide (c = 24) }, [])
  else if c = 6 then sNextF { s with can := decide (c = 24), at_ := if s.phase = 1 then s.at_ + 1 else s.at_ }
  else if c = 21 then sAgainF { s with can := decide (c = 24) }
  else ({ s with can := decide (c = 24) }, [])
noncomputable def sTickF (s : Sn) : Sn × List UInt8 :=
  if s.phase = 3 then (s, [])
  else if 0 < s.left - 1 then ({ s with left := s.left - 1 }, [])
  else sAgainF { s with left := s.left - 1 }
/-- What it holds at all times; and while blocks are sent. -/
structure SnV (s : Sn) : Prop where
  t1 : 1 ≤ s.tries
  t2 : s.tries ≤ 9
  w1 : 1 ≤ s.wait
  w2 : s.wait ≤ 99
  r1 : 1 ≤ s.tr
  r2 : s.tr ≤ 9
  l1 : 0 ≤ s.left
  l2 : s.left ≤ 99
  p : s.phase ≤ 3
  a : s.at_ ≤ s.blocks.length
  f : ∀ x ∈ s.blocks, x.2.length = 128 ∨ x.2.length = 1024
structure SnW (s : Sn) : Prop extends SnV s where
  d : s.phase = 1 → s.at_ < s.blocks.length
  l3 : s.phase ≠ 3 → 1 ≤ s.left
theorem clamp_le (lo hi x : Int) (h : lo ≤ hi) : lo ≤ clampI lo hi x ∧ clampI lo hi x ≤ hi := by
  unfold clampI
  split <;> split at * <;> omega
theorem snOf_w {tr wt : Int} {bs : List Bk} {crc close : Bool} (h : ∀ x ∈ bs, x.2.length = 128 ∨ x.2.length = 1024) : SnW (snOf tr wt bs crc close) := by
  have h1 := clamp_le 1 9 tr (by omega)
  have h2 := clamp_le 1 99 wt (by omega)
  exact ⟨⟨h1.1, h1.2, h2.1, h2.2, by simp [snOf], by simp [snOf], by simp only [snOf]; omega, by simp only [snOf]; omega, by simp [snOf], by simp [snOf], h⟩, by simp [snOf], fun _ => by simp only [snOf]; omega⟩
theorem sEnd_w {s : Sn} {e : Nat} (h : SnV s) : SnW (sEndF s e).1 := ⟨⟨h.1, h.2, h.3, h.4, h.5, h.6, h.7, h.8, by simp [sEndF], h.10, h.11⟩, by simp [sEndF], by simp [sEndF]⟩
theorem sNow_w {s : Sn} (h : SnW s) : SnW (sNowF s).1 := by
  unfold sNowF
  split
  · split
    · exact h
    · exact sEnd_w h.1
  · split
    · exact h
    · exact h
theorem sNext_w {s : Sn} (h : SnV s) : SnW (sNextF s).1 := by
  have h3 := h.3
  have h4 := h.4
  unfold sNextF
  split
  · rename_i ha
    exact sNow_w ⟨⟨h.1, h.2, h.3, h.4, by simp, by simp, by simp only; omega, by simp only; omega, by simp, h.10, h.11⟩, fun _ => ha, fun _ => h3⟩
  · split
    · exact sNow_w ⟨⟨h.1, h.2, h.3, h.4, by simp, by simp, by simp only; omega, by simp only; omega, by simp, h.10, h.11⟩, by simp, fun _ => h3⟩
    · exact sEnd_w ⟨h.1, h.2, h.3, h.4, by simp, by simp, by simp only; omega, by simp only; omega, h.9, h.10, h.11⟩
theorem sAgain_w {s : Sn} (h : SnV s) (hd : s.phase = 1 → s.at_ < s.blocks.length) : SnW (sAgainF s).1 := by
  unfold sAgainF
  split
  · exact sEnd_w h
  · have h1 := h.1
    have h2 := h.2
    have h3 := h.3
    have h4 := h.4
    have h5 := h.5
    exact sNow_w ⟨⟨h.1, h.2, h.3, h.4, by simp only; omega, by simp only; omega, by simp only; omega, by simp only; omega, h.9, h.10, h.11⟩, hd, fun _ => h3⟩
theorem sPut_w {s : Sn} (h : SnW s) (c : UInt8) : SnW (sPutF s c).1 := by
  have hv : ∀ b, SnV { s with can := b } := fun b => ⟨h.1.1, h.1.2, h.1.3, h.1.4, h.1.5, h.1.6, h.1.7, h.1.8, h.1.9, h.1.10, h.1.11⟩
  have hc : ∀ b, SnW { s with can := b } := fun b => ⟨hv b, h.2, h.3⟩
  unfold sPutF
  split
  · exact hc _
  · split
    · exact sEnd_w (hv _)
    · split
      · exact sNext_w ⟨h.1.1, h.1.2, h.1.3, h.1.4, h.1.5, h.1.6, h.1.7, h.1.8, h.1.9, h.1.10, h.1.11⟩
      · split
        · exact hc _
        · split
          · refine sNext_w ⟨h.1.1, h.1.2, h.1.3, h.1.4, h.1.5, h.1.6, h.1.7, h.1.8, h.1.9, ?_, h.1.11⟩
            simp only
            split
            · rename_i hp
              have := h.2 hp
              omega
            · exact h.1.10
          · split
            · exact sAgain_w (hv _) h.2
            · exact hc _
theorem sTick_w {s : Sn} (h : SnW s) : SnW (sTickF s).1 := by
  have h8 := h.1.8
  unfold sTickF
  split
  · exact h
  · rename_i hp
    have h7 := h.3 hp
    split
    · exact ⟨⟨h.1.1, h.1.2, h.1.3, h.1.4, h.1.5, h.1.6, by simp only; omega, by simp only; omega, h.1.9, h.1.10, h.1.11⟩, h.2, fun _ => by simp only; omega⟩
    · exact sAgain_w ⟨h.1.1, h.1.2, h.1.3, h.1.4, h.1.5, h.1.6, by simp only; omega, by simp only; omega, h.1.9, h.1.10, h.1.11⟩ h.2
theorem sNow_data {s : Sn} {n : UInt8} {d : List UInt8} (hp : s.phase = 1) (hb : s.blocks[s.at_]? = some (n, d)) (hd : d.length = 128 ∨ d.length = 1024) : sNowF s = (s, blkL n d s.crc) := by
  unfold sNowF
  rw [if_pos hp, List.getD_eq_getElem?_getD, hb]
  simp only [Option.getD_some]
  rw [if_pos (by simp [fitB, hd])]
/-- The first answer: what is sent first. -/
theorem sPut_go {s : Sn} (hp : s.phase = 0) (hcan : s.can = false) (hcrc : s.crc = true) : sPutF s 67 = sNextF s := by
  unfold sPutF
  rw [if_neg (by omega), if_neg (fun h => by rw [hcan] at h; cases h.1), if_pos ⟨hp, .inr ⟨rfl, hcrc⟩⟩]
  have e : ({ s with can := decide ((67 : UInt8) = 24), crc := decide ((67 : UInt8) = 67) } : Sn) = s := by
    obtain ⟨a1, a2, a3, a4, a5, a6, a7, a8, a9, a10, a11⟩ := s
    simp only at hcan hcrc
    subst hcan hcrc
    rfl
  rw [e]
/-- A block was taken. -/
theorem sPut_ack {s : Sn} (hp : s.phase = 1 ∨ s.phase = 2) (hcan : s.can = false) : sPutF s 6 = sNextF { s with at_ := if s.phase = 1 then s.at_ + 1 else s.at_ } := by
  unfold sPutF
  rw [if_neg (by omega), if_neg (fun h => by rw [hcan] at h; cases h.1), if_neg (fun h => by omega), if_neg (by omega), if_pos rfl]
  have e : decide ((6 : UInt8) = 24) = s.can := by rw [hcan]; rfl
  rw [e]
theorem sTick_wait {s : Sn} (h : 1 < s.left) (hp : s.phase ≠ 3) : sTickF s = ({ s with left := s.left - 1 }, []) := by
  unfold sTickF
  rw [if_neg hp, if_pos (by omega)]
theorem scanned {n : UInt8} {d : List UInt8} {crc : Bool} (h : d.length = 128 ∨ d.length = 1024) : scanF (blkL n d crc) crc = (2, n, d) := by
  have hl := blk_len n d crc
  have ht := trail_len d crc
  have htr : 1 ≤ trN crc ∧ trN crc ≤ 2 := by cases crc <;> decide
  rw [scanF_eq crc (by omega)]
  obtain ⟨T, hT⟩ : ∃ T, trailL d crc = T := ⟨_, rfl⟩
  obtain ⟨b, hb⟩ : ∃ b : UInt8, (if d.length = 128 then (1 : UInt8) else 2) = b := ⟨_, rfl⟩
  have hz : bsize b crc = 3 + d.length + trN crc := by
    rcases h with h | h
    · rw [if_pos h] at hb
      subst hb
      unfold bsize
      rw [if_pos rfl, h]
    · rw [if_neg (by omega)] at hb
      subst hb
      unfold bsize
      rw [if_neg (by decide), if_pos rfl, h]
  have hbk : blkL n d crc = b :: n :: (255 - n) :: (d ++ T) := by unfold blkL; rw [hb, hT]
  rw [hbk]
  rw [hbk] at hl
  rw [hT] at ht
  have e0 : (b :: n :: (255 - n) :: (d ++ T)).getD 0 0 = b := rfl
  have e1 : (b :: n :: (255 - n) :: (d ++ T)).getD 1 0 = n := rfl
  have e2 : (b :: n :: (255 - n) :: (d ++ T)).getD 2 0 = 255 - n := rfl
  rw [e0, e1, e2, hz]
  have e3 : 3 + d.length + trN crc - trN crc - 3 = d.length := by omega
  have e4 : 3 + d.length + trN crc - trN crc = d.length + 3 := by omega
  rw [e3, e4]
  have e5 : ((b :: n :: (255 - n) :: (d ++ T)).drop 3).take d.length = d := by simp
  have e6 : ((b :: n :: (255 - n) :: (d ++ T)).drop (d.length + 3)).take (trN crc) = T := by
    rw [show d.length + 3 = 3 + d.length by omega, ← List.drop_drop]
    simp [← ht]
  have e7 : n = 255 - (255 - n) := by
    apply UInt8.toNat_inj.1
    have := n.toNat_lt
    have h1 : (255 : UInt8).toNat = 255 := rfl
    rw [UInt8.toNat_sub, UInt8.toNat_sub, h1]
    omega
  rw [e5, e6, hT]
  rw [if_neg (by omega), if_neg (fun hh => hh.2 e7), if_neg (by omega), if_pos rfl]
/-- A block that is waited for is taken. -/
theorem rPut_blk {r : Rc} {d : List UInt8} (hov : r.over = false) (hbf : r.buffer = []) (h : d.length = 128 ∨ d.length = 1024) :
    rPutF r (blkL r.number d r.crc) = finF { r with left := r.wait, buffer := [], data := r.data ++ d, number := r.number + 1, blocks := r.blocks + 1, begun := true } := by
  have hl := blk_len r.number d r.crc
  unfold rPutF
  rw [if_neg (fun hh => hh.elim (by rw [hov]; simp) (by omega))]
  have hs : ({ r with left := r.wait, buffer := r.buffer ++ blkL r.number d r.crc } : Rc) = { r with left := r.wait, buffer := blkL r.number d r.crc } := by rw [hbf]; rfl
  rw [hs]
  unfold rPut1
  have hf : (blkL r.number d r.crc).getD 0 0 = 1 ∨ (blkL r.number d r.crc).getD 0 0 = 2 := by
    unfold blkL
    split
    · exact .inl rfl
    · exact .inr rfl
  have hf4 : (blkL r.number d r.crc).getD 0 0 ≠ 4 := by rcases hf with e | e <;> rw [e] <;> decide
  have hf24 : (blkL r.number d r.crc).getD 0 0 ≠ 24 := by rcases hf with e | e <;> rw [e] <;> decide
  simp only
  rw [if_neg (fun hh => hf4 hh.1), if_neg (fun hh => hf24 hh.1), if_neg (fun hh => hf24 hh.1)]
  unfold scaF
  simp only
  rw [scanned h]
  simp only
  rw [if_neg (by decide), if_neg (by decide)]
  unfold takeF
  simp only [if_true]
theorem rPut_eot {r : Rc} (hov : r.over = false) (hbf : r.buffer = []) (hcl : r.close = true) : rPutF r [4] = ({ r with left := r.wait, buffer := [4], over := true, err := 0 }, [6]) := by
  unfold rPutF
  rw [if_neg (fun hh => hh.elim (by rw [hov]; simp) (by simp))]
  have hs : ({ r with left := r.wait, buffer := r.buffer ++ [4] } : Rc) = { r with left := r.wait, buffer := [4] } := by rw [hbf]; rfl
  rw [hs]
  unfold rPut1
  simp only
  rw [if_pos ⟨rfl, hcl⟩]
theorem rTick_first {r : Rc} (hov : r.over = false) (hl : r.left = 1) (hb : r.begun = false) (ht : r.tries ≠ 0) (hc : r.crc = true) (hbf : r.buffer = []) : rTickF r = ({ r with left := r.wait, tries := r.tries - 1 }, [67]) := by
  unfold rTickF
  rw [if_neg (by rw [hov]; simp), if_neg (by omega), if_neg (by rw [hb]; simp), if_neg ht, if_pos hc, hbf]
theorem rTick_wait {r : Rc} (hov : r.over = false) (hl : 1 < r.left) : rTickF r = ({ r with left := r.left - 1 }, []) := by
  unfold rTickF
  rw [if_neg (by rw [hov]; simp), if_pos hl]
end Go.Proofs.YthmhappejchilaaGreatDoor.Ab

set_option linter.unusedVariables false
set_option linter.unusedSimpArgs false
namespace Go.Proofs.YthmhappejchilaaGreatDoor.Ab
open Go Go.RowKit
set_option maxHeartbeats 4000000
set_option maxRecDepth 100000
/-- What a callee that only makes has made lies beside the rest. -/
theorem Sep.addO {m0 m M : Mem} {V : Nat → Prop} {l H : HL} (h : Sep m0 V m l) (h2 : Sep m (fun i => i < m.next) M H) : Sep m0 V M (H ++ l) := by
  refine (show Sep m0 V m ([] ++ l) from h).un (A := []) ?_
  refine ⟨h2.k.mono fun i hi hv => hi, fun i hv => ?_, fun i hi => .inl (h.gl i hi), h2.pt, fun p hp i hi => ?_, h2.ap⟩
  · rcases hv with hv | hv
    · exact Nat.lt_of_lt_of_le (h.vl i hv) h.n
    · exact (h.il hv).1
  · have a := h2.ok p hp i hi
    refine ⟨a.1, a.2.1, fun hv => a.2.2 ?_⟩
    rcases hv with hv | hv
    · exact Nat.lt_of_lt_of_le (h.vl i hv) h.n
    · exact (h.il hv).1
/-- Blocks: their cells, and their bytes. -/
def bkC : List Nat → List Bk → List Value
  | v :: vs, b :: bs => .int .u8 (b.1.toNat : Int) :: .slice (some ⟨v, 0, none⟩) b.2.length 1 :: bkC vs bs
  | _, _ => []
def bkD : List Nat → List Bk → HL
  | v :: vs, b :: bs => byH (some v) b.2 :: bkD vs bs
  | _, _ => []
theorem bkC_len : ∀ {vs : List Nat} {bs : List Bk}, vs.length = bs.length → (bkC vs bs).length = bs.length * 2
  | [], [], _ => rfl
  | v :: vs, b :: bs, h => by
    have := bkC_len (vs := vs) (bs := bs) (by simpa using h)
    simp only [bkC, List.length_cons, this]
    omega
theorem bkC_app : ∀ {vs : List Nat} {bs : List Bk} (v : Nat) (b : Bk), vs.length = bs.length → bkC (vs ++ [v]) (bs ++ [b]) = bkC vs bs ++ [.int .u8 (b.1.toNat : Int), .slice (some ⟨v, 0, none⟩) b.2.length 1]
  | [], [], v, b, _ => rfl
  | v0 :: vs, b0 :: bs, v, b, h => by
    simp only [List.cons_append, bkC]
    rw [bkC_app v b (by simpa using h)]
theorem bkD_app : ∀ {vs : List Nat} {bs : List Bk} (v : Nat) (b : Bk), vs.length = bs.length → bkD (vs ++ [v]) (bs ++ [b]) = bkD vs bs ++ [byH (some v) b.2]
  | [], [], v, b, _ => rfl
  | v0 :: vs, b0 :: bs, v, b, h => by
    simp only [List.cons_append, bkD]
    rw [bkD_app v b (by simpa using h)]
theorem bk_at : ∀ {vs : List Nat} {bs : List Bk} {k : Nat} {b : Bk}, vs.length = bs.length → bs[k]? = some b → ∃ v, vs[k]? = some v ∧ ((bkC vs bs).drop (k * 2)).take 2 = [.int .u8 (b.1.toNat : Int), .slice (some ⟨v, 0, none⟩) b.2.length 1] ∧ byH (some v) b.2 ∈ bkD vs bs
  | [], [], k, b, _, hk => by simp at hk
  | v0 :: vs, b0 :: bs, 0, b, h, hk => by
    simp at hk
    subst hk
    exact ⟨v0, rfl, rfl, by simp [bkD]⟩
  | v0 :: vs, b0 :: bs, k + 1, b, h, hk => by
    obtain ⟨v, h1, h2, h3⟩ := bk_at (vs := vs) (bs := bs) (k := k) (b := b) (by simpa using h) (by simpa using hk)
    refine ⟨v, by simpa using h1, ?_, by simp [bkD, h3]⟩
    rw [show (k + 1) * 2 = k * 2 + 1 + 1 by omega]
    simp only [bkC, List.drop_succ_cons]
    exact h2
def snC (s : Sn) (vb : Value) : List Value := [.int .i64 s.tries, .int .i64 s.wait, vb, .bool s.close, .bool s.crc, .int .i64 (s.phase : Int), .int .i64 (s.at_ : Int), .int .i64 s.tr, .int .i64 s.left, .bool s.can, errV s.err]
def snH (is : Nat) (ob : Option Nat) (vs : List Nat) (s : Sn) : HL := (some is, .own (snC s (slV ob s.blocks.length 2)) 112) :: (ob, .own (bkC vs s.blocks) 50) :: bkD vs s.blocks
structure SnR (H : HL) (is : Nat) (s : Sn) : Prop where
  ex : ∃ ob vs, H = snH is ob vs s ∧ vs.length = s.blocks.length ∧ (ob = none → s.blocks.length = 0)
  w : SnW s
end Go.Proofs.YthmhappejchilaaGreatDoor.Ab

set_option linter.unusedVariables false
set_option linter.unusedSimpArgs false
namespace Go.Proofs.YthmhappejchilaaGreatDoor.Ab
open Go Go.RowKit
def ieqW (neg : Bool) (tt : List TypeId) (a b : Value) : Option Value := if bothNil a b = true then none else match dEq (.iface tt) a b with
  | some r => some (.bool (if neg then !r else r))
  | none => none
theorem dR_ieq {ts : Fr} {m : Mem} {neg : Bool} {tt : List TypeId} {x y : Operand} : dR ts m (.ieq neg tt x y) = ieqW neg tt (ev ts x) (ev ts y) := by
  unfold ieqW
  rw [dR]
  rfl
theorem ieqW_ii {neg : Bool} {l : List TypeId} {t : TypeId} {k : IntKind} {a b : Int} : ieqW neg l (.iface t (.int k a)) (.iface t (.int k b)) = if l.contains t = true then some (.bool (if neg then !(a == b) else (a == b))) else none := by
  by_cases h : t ∈ l <;> simp [ieqW, bothNil, dEq, h]
theorem ieqW_nl {neg : Bool} {l : List TypeId} {t : TypeId} {v : Value} : ieqW neg l .nilIface (.iface t v) = some (.bool neg) := by
  cases neg <;> simp [ieqW, dEq]
theorem ieqW_nr {neg : Bool} {l : List TypeId} {t : TypeId} {v : Value} : ieqW neg l (.iface t v) .nilIface = some (.bool neg) := by
  cases neg <;> simp [ieqW, dEq]
end Go.Proofs.YthmhappejchilaaGreatDoor.Ab

set_option linter.unusedVariables false
set_option linter.unusedSimpArgs false
namespace Go.Proofs.YthmhappejchilaaGreatDoor.Ab
open Go Go.RowKit
set_option maxHeartbeats 4000000
set_option maxRecDepth 100000
/-- What is told, and what sends lies as it should. -/
def SnQ (V : Nat → Prop) (m : Mem) (is : Nat) (ob : Option Nat) (vs : List Nat) (r : Sn × List UInt8) (Q : Value → Mem → Prop) : Prop :=
  ∀ oo M, Sep m V M (byH oo r.2 :: snH is ob vs r.1) → (oo = none → r.2.length = 0) → Q (slV oo r.2.length 1) M
theorem c_sEnd {w0 : World} {V : Nat → Prop} {m0 m : Mem} {is : Nat} {ob : Option Nat} {vs : List Nat} {s : Sn} {e : Nat} {Q : Value → Mem → Prop} (h : Sep m0 V m (snH is ob vs s))
    (hq : SnQ V m0 is ob vs (sEndF s e) Q) : AbC Tryz.prog w0 72 [.pointer (some ⟨is, 0, none⟩), errV e] m Q := by
  refine AbC_fn ok72 (by simp) ?_
  simp -implicitDefEqProofs (disch := first | assumption | omega | fail) [rc72, ro72, wkB, retV, stabOk, dC, ev, fillD, pickCells, putAt, bnd, slD, List.getElem?_cons_zero, List.getElem?_cons_succ, Mem.cell, Mem.row, cells_own, cells_ro]
  refine SK_stS h 0 rfl (o := 5) (vs := [.int .i64 3]) (cs' := snC { s with phase := 3 } (slV ob s.blocks.length 2)) (by simp [wkB, retV, stabOk, dC, ev, fillD, pickCells, putAt, bnd, slD, List.getElem?_cons_zero, List.getElem?_cons_succ, Mem.cell, Mem.row, cells_own, cells_ro]) (by simp [wkB, retV, stabOk, dC, ev, fillD, pickCells, putAt, bnd, slD, List.getElem?_cons_zero, List.getElem?_cons_succ, Mem.cell, Mem.row, cells_own, cells_ro]) (by simp [snC]) rfl rfl (by simp [snC, putAt]) fun m1 h1 _ => ?_
  simp -implicitDefEqProofs (disch := first | assumption | omega | fail) [wkB, retV, stabOk, dC, ev, fillD, pickCells, putAt, bnd, slD, List.getElem?_cons_zero, List.getElem?_cons_succ, Mem.cell, Mem.row, cells_own, cells_ro]
  refine SK_stS h1 0 rfl (o := 10) (vs := [errV e]) (cs' := snC { s with phase := 3, err := e } (slV ob s.blocks.length 2)) (by simp [wkB, retV, stabOk, dC, ev, fillD, pickCells, putAt, bnd, slD, List.getElem?_cons_zero, List.getElem?_cons_succ, Mem.cell, Mem.row, cells_own, cells_ro]) (by simp [wkB, retV, stabOk, dC, ev, fillD, pickCells, putAt, bnd, slD, List.getElem?_cons_zero, List.getElem?_cons_succ, Mem.cell, Mem.row, cells_own, cells_ro, cellsV_errV]) (by simp [snC]) rfl (by simp [oneC_errV]) (by simp [snC, putAt]) fun m2 h2 _ => ?_
  have h2 : Sep m0 V m2 (snH is ob vs { s with phase := 3, err := e }) := h2
  unfold SnQ sEndF at hq
  by_cases he : e = 10
  · subst he
    rw [if_pos rfl] at hq
    simp -implicitDefEqProofs (disch := first | assumption | omega | fail) [wkB, retV, stabOk, dC, ev, fillD, pickCells, putAt, bnd, slD, List.getElem?_cons_zero, List.getElem?_cons_succ, Mem.cell, Mem.row, cells_own, cells_ro, errV, dR_ieq, ieqW_ii, ieqW_nl]
    refine SK_bslS h2 (cs := ([24, 24] : List UInt8).map byteV) (by simp [fillD, pickCells, wkB, retV, stabOk, dC, ev, fillD, pickCells, putAt, bnd, slD, List.getElem?_cons_zero, List.getElem?_cons_succ, Mem.cell, Mem.row, cells_own, cells_ro, byteV]) rfl fun b m3 h3 _ _ => ?_
    simp -implicitDefEqProofs (disch := first | assumption | omega | fail) [wkB, retV, stabOk, dC, ev, fillD, pickCells, putAt, bnd, slD, List.getElem?_cons_zero, List.getElem?_cons_succ, Mem.cell, Mem.row, cells_own, cells_ro]
    exact hq (some b) m3 h3 (fun e => by cases e)
  · rw [if_neg he] at hq
    cases e with
    | zero =>
      simp -implicitDefEqProofs (disch := first | assumption | omega | fail) [wkB, retV, stabOk, dC, ev, fillD, pickCells, putAt, bnd, slD, List.getElem?_cons_zero, List.getElem?_cons_succ, Mem.cell, Mem.row, cells_own, cells_ro, errV, dR_ieq, ieqW_ii, ieqW_nl, rc72_0]
      exact hq none m2 (h2.non _) (fun _ => rfl)
    | succ k =>
      have hk : (((k + 1 : Nat) : Int) == 10) = false := beq_eq_false_iff_ne.2 (by omega)
      have hk2 : ((k : Int) + 1 == 10) = false := beq_eq_false_iff_ne.2 (by omega)
      simp -implicitDefEqProofs (disch := first | assumption | omega | fail) [wkB, retV, stabOk, dC, ev, fillD, pickCells, putAt, bnd, slD, List.getElem?_cons_zero, List.getElem?_cons_succ, Mem.cell, Mem.row, cells_own, cells_ro, errV, dR_ieq, ieqW_ii, ieqW_nl, hk, hk2, rc72_0]
      exact hq none m2 (h2.non _) (fun _ => rfl)
theorem SlR.cells_at {m : Mem} {sz n j : Nat} {v : Value} {cs C : List Value} (h : SlR m sz v cs n) (hj : j < n) (hC : (cs.drop (j * sz)).take sz = C) :
    ∃ i o L, v = .slice (some ⟨i, o, none⟩) n sz ∧ sidx sz v (.int .i64 (j : Int)) = some (.pointer (some ⟨i, o + j * sz, none⟩)) ∧ (m.get i).cells? = some L ∧ o + j * sz + sz ≤ L.length ∧ (L.drop (o + j * sz)).take sz = C := by
  obtain ⟨i, o, L, rfl, h2, h3, h4, -⟩ := h.at hj
  have hle : j * sz + sz ≤ n * sz := by
    have : (j + 1) * sz ≤ n * sz := Nat.mul_le_mul_right _ hj
    rwa [Nat.add_mul, Nat.one_mul] at this
  exact ⟨i, o, L, rfl, sidx_at hj, h2, by omega, by rw [h4, hC]⟩
theorem c_sNow {w0 : World} {V : Nat → Prop} {m0 m : Mem} {is : Nat} {ob : Option Nat} {vs : List Nat} {s : Sn} {Q : Value → Mem → Prop} (h : Sep m0 V m (snH is ob vs s)) (hvs : vs.length = s.blocks.length) (hob : ob = none → s.blocks.length = 0) (hd : s.phase = 1 → s.at_ < s.blocks.length)
    (hf : ∀ x ∈ s.blocks, x.2.length = 128 ∨ x.2.length = 1024) (hq : SnQ V m0 is ob vs (sNowF s) Q) : AbC Tryz.prog w0 102 [.pointer (some ⟨is, 0, none⟩)] m Q := by
  refine AbC_fn ok102 (by simp) ?_
  have g0 := h.get 0 rfl
  simp only [snC] at g0
  by_cases h1 : s.phase = 1
  · have hat := hd h1
    obtain ⟨b, hb⟩ : ∃ b, s.blocks[s.at_]? = some b := ⟨_, List.getElem?_eq_getElem hat⟩
    obtain ⟨v, hv1, hv2, hv3⟩ := bk_at hvs hb
    have hfb := hf b (List.mem_of_getElem? hb)
    have hnow := sNow_data h1 (n := b.1) (d := b.2) hb hfb
    rw [hnow] at hq
    have hO : SlR m 2 (slV ob s.blocks.length 2) (bkC vs s.blocks) s.blocks.length := (h.slO 1 (k := s.blocks.length) (sz := 2) rfl (bkC_len hvs) hob).read
    obtain ⟨i, o, L, hi1, hi2, hi3, hi4, hi5⟩ := hO.cells_at hat hv2
    have hmem : byH (some v) b.2 ∈ snH is ob vs s := List.mem_cons_of_mem _ (List.mem_cons_of_mem _ hv3)
    have hrd : RdV (fun i => i < m.next) m 1 (.slice (some ⟨v, 0, none⟩) b.2.length 1) (b.2.map byteV) b.2.length := h.rdm (ob := some v) hmem (by simp) (fun e => by cases e) (fun i hi => by cases hi; exact (h.ok _ hmem v rfl).2.1)
    have e1 : ((s.phase : Int) == 1) = true := by rw [h1]; rfl
    simp -implicitDefEqProofs (disch := first | assumption | omega | fail) [rc102, ro102, wkB, retV, stabOk, dC, ev, fillD, pickCells, putAt, bnd, slD, List.getElem?_cons_zero, List.getElem?_cons_succ, Mem.cell, Mem.row, cells_own, cells_ro, g0, e1, hi2, hi3, hi4, hi5]
    refine c_bMake h.pt hrd hfb fun m2 y o2 hy1 hy2 hy3 => ?_
    have h2 := h.new (ob := some y) o2 (E := .own ((blkL b.1 b.2 s.crc).map byteV) 5) (fun i hi => by cases hi; exact ⟨hy1, hy2, hy3⟩)
    simp -implicitDefEqProofs (disch := first | assumption | omega | fail) [wkB, retV, stabOk, dC, ev, fillD, pickCells, putAt, bnd, slD, List.getElem?_cons_zero, List.getElem?_cons_succ, Mem.cell, Mem.row, cells_own, cells_ro, rc102_0]
    exact hq (some y) m2 h2 (fun e => by cases e)
  · have e1 : ((s.phase : Int) == 1) = false := beq_eq_false_iff_ne.2 (by omega)
    unfold sNowF at hq
    rw [if_neg h1] at hq
    by_cases h2 : s.phase = 2
    · have e2 : ((s.phase : Int) == 2) = true := by rw [h2]; rfl
      rw [if_pos h2] at hq
      simp -implicitDefEqProofs (disch := first | assumption | omega | fail) [rc102, ro102, wkB, retV, stabOk, dC, ev, fillD, pickCells, putAt, bnd, slD, List.getElem?_cons_zero, List.getElem?_cons_succ, Mem.cell, Mem.row, cells_own, cells_ro, g0, e1, e2]
      refine SK_bslS h (cs := ([4] : List UInt8).map byteV) (by simp [fillD, pickCells, wkB, retV, stabOk, dC, ev, fillD, pickCells, putAt, bnd, slD, List.getElem?_cons_zero, List.getElem?_cons_succ, Mem.cell, Mem.row, cells_own, cells_ro, byteV]) rfl fun b m3 h3 _ _ => ?_
      simp -implicitDefEqProofs (disch := first | assumption | omega | fail) [wkB, retV, stabOk, dC, ev, fillD, pickCells, putAt, bnd, slD, List.getElem?_cons_zero, List.getElem?_cons_succ, Mem.cell, Mem.row, cells_own, cells_ro]
      exact hq (some b) m3 h3 (fun e => by cases e)
    · have e2 : ((s.phase : Int) == 2) = false := beq_eq_false_iff_ne.2 (by omega)
      rw [if_neg h2] at hq
      simp -implicitDefEqProofs (disch := first | assumption | omega | fail) [rc102, ro102, wkB, retV, stabOk, dC, ev, fillD, pickCells, putAt, bnd, slD, List.getElem?_cons_zero, List.getElem?_cons_succ, Mem.cell, Mem.row, cells_own, cells_ro, g0, e1, e2, rc102_1]
      exact hq none m (h.non _) (fun _ => rfl)
theorem c_sNext {w0 : World} {V : Nat → Prop} {m0 m : Mem} {is : Nat} {ob : Option Nat} {vs : List Nat} {s : Sn} {Q : Value → Mem → Prop} (h : Sep m0 V m (snH is ob vs s)) (hvs : vs.length = s.blocks.length) (hob : ob = none → s.blocks.length = 0)
    (hf : ∀ x ∈ s.blocks, x.2.length = 128 ∨ x.2.length = 1024) (hbl : s.blocks.length ≤ 9223372036854775807) (hq : SnQ V m0 is ob vs (sNextF s) Q) : AbC Tryz.prog w0 73 [.pointer (some ⟨is, 0, none⟩)] m Q := by
  refine AbC_fn ok73 (by simp) ?_
  have g0 := h.get 0 rfl
  simp only [snC] at g0
  have hO : SlR m 2 (slV ob s.blocks.length 2) (bkC vs s.blocks) s.blocks.length := (h.slO 1 (k := s.blocks.length) (sz := 2) rfl (bkC_len hvs) hob).read
  have hsl := hO.slen
  simp -implicitDefEqProofs (disch := first | assumption | omega | fail) [rc73, ro73, wkB, retV, stabOk, dC, ev, fillD, pickCells, putAt, bnd, slD, List.getElem?_cons_zero, List.getElem?_cons_succ, Mem.cell, Mem.row, cells_own, cells_ro, g0]
  refine SK_stS h 0 rfl (o := 7) (vs := [.int .i64 1]) (cs' := snC { s with tr := 1 } (slV ob s.blocks.length 2)) (by simp [wkB, retV, stabOk, dC, ev, fillD, pickCells, putAt, bnd, slD, List.getElem?_cons_zero, List.getElem?_cons_succ, Mem.cell, Mem.row, cells_own, cells_ro]) (by simp [wkB, retV, stabOk, dC, ev, fillD, pickCells, putAt, bnd, slD, List.getElem?_cons_zero, List.getElem?_cons_succ, Mem.cell, Mem.row, cells_own, cells_ro]) (by simp [snC]) rfl rfl (by simp [snC, putAt]) fun m1 h1 _ => ?_
  simp -implicitDefEqProofs (disch := first | assumption | omega | fail) [wkB, retV, stabOk, dC, ev, fillD, pickCells, putAt, bnd, slD, List.getElem?_cons_zero, List.getElem?_cons_succ, Mem.cell, Mem.row, cells_own, cells_ro]
  refine SK_stS h1 0 rfl (o := 8) (vs := [.int .i64 s.wait]) (cs' := snC { s with tr := 1, left := s.wait } (slV ob s.blocks.length 2)) (by simp [wkB, retV, stabOk, dC, ev, fillD, pickCells, putAt, bnd, slD, List.getElem?_cons_zero, List.getElem?_cons_succ, Mem.cell, Mem.row, cells_own, cells_ro]) (by simp [wkB, retV, stabOk, dC, ev, fillD, pickCells, putAt, bnd, slD, List.getElem?_cons_zero, List.getElem?_cons_succ, Mem.cell, Mem.row, cells_own, cells_ro]) (by simp [snC]) rfl rfl (by simp [snC, putAt]) fun m2 h2 _ => ?_
  have g2 := h2.get 0 rfl
  simp only [snC] at g2
  unfold sNextF at hq
  by_cases ha : s.at_ < s.blocks.length
  · have ha' : (s.at_ : Int) < (s.blocks.length : Nat) := by omega
    rw [if_pos ha] at hq
    simp -implicitDefEqProofs (disch := first | assumption | omega | fail) [wkB, retV, stabOk, dC, ev, fillD, pickCells, putAt, bnd, slD, List.getElem?_cons_zero, List.getElem?_cons_succ, Mem.cell, Mem.row, cells_own, cells_ro, g2, hsl, ha, ha']
    refine SK_stS h2 0 rfl (o := 5) (vs := [.int .i64 1]) (cs' := snC { s with tr := 1, left := s.wait, phase := 1 } (slV ob s.blocks.length 2)) (by simp [wkB, retV, stabOk, dC, ev, fillD, pickCells, putAt, bnd, slD, List.getElem?_cons_zero, List.getElem?_cons_succ, Mem.cell, Mem.row, cells_own, cells_ro]) (by simp [wkB, retV, stabOk, dC, ev, fillD, pickCells, putAt, bnd, slD, List.getElem?_cons_zero, List.getElem?_cons_succ, Mem.cell, Mem.row, cells_own, cells_ro]) (by simp [snC]) rfl rfl (by simp [snC, putAt]) fun m3 h3 _ => ?_
    simp -implicitDefEqProofs (disch := first | assumption | omega | fail) [wkB, retV, stabOk, dC, ev, fillD, pickCells, putAt, bnd, slD, List.getElem?_cons_zero, List.getElem?_cons_succ, Mem.cell, Mem.row, cells_own, cells_ro, rc73_0]
    refine c_sNow (s := { s with tr := 1, left := s.wait, phase := 1 }) h3 hvs hob (fun _ => ha) hf fun oo M hM hoo => ?_
    simp -implicitDefEqProofs (disch := first | assumption | omega | fail) [wkB, retV, stabOk, dC, ev, fillD, pickCells, putAt, bnd, slD, List.getElem?_cons_zero, List.getElem?_cons_succ, Mem.cell, Mem.row, cells_own, cells_ro]
    exact hq oo M hM hoo
  · have ha' : ¬ (s.at_ : Int) < (s.blocks.length : Nat) := by omega
    rw [if_neg ha] at hq
    by_cases hc : s.close = true ∧ s.phase ≠ 2
    · rw [if_pos hc] at hq
      obtain ⟨hc1, hc2⟩ := hc
      have e2 : ((s.phase : Int) != 2) = true := by simp; omega
      have e3 : ¬ s.phase = 2 := hc2
      rw [hc1] at g2
      simp -implicitDefEqProofs (disch := first | assumption | omega | fail) [wkB, retV, stabOk, dC, ev, fillD, pickCells, putAt, bnd, slD, List.getElem?_cons_zero, List.getElem?_cons_succ, Mem.cell, Mem.row, cells_own, cells_ro, g2, hsl, ha, ha', e2, e3]
      refine SK_stS h2 0 rfl (o := 5) (vs := [.int .i64 2]) (cs' := snC { s with tr := 1, left := s.wait, phase := 2 } (slV ob s.blocks.length 2)) (by simp [wkB, retV, stabOk, dC, ev, fillD, pickCells, putAt, bnd, slD, List.getElem?_cons_zero, List.getElem?_cons_succ, Mem.cell, Mem.row, cells_own, cells_ro]) (by simp [wkB, retV, stabOk, dC, ev, fillD, pickCells, putAt, bnd, slD, List.getElem?_cons_zero, List.getElem?_cons_succ, Mem.cell, Mem.row, cells_own, cells_ro]) (by simp [snC]) rfl rfl (by simp [snC, putAt]) fun m3 h3 _ => ?_
      simp -implicitDefEqProofs (disch := first | assumption | omega | fail) [wkB, retV, stabOk, dC, ev, fillD, pickCells, putAt, bnd, slD, List.getElem?_cons_zero, List.getElem?_cons_succ, Mem.cell, Mem.row, cells_own, cells_ro, rc73_0]
      refine c_sNow (s := { s with tr := 1, left := s.wait, phase := 2 }) h3 hvs hob (fun e => by cases e) hf fun oo M hM hoo => ?_
      simp -implicitDefEqProofs (disch := first | assumption | omega | fail) [wkB, retV, stabOk, dC, ev, fillD, pickCells, putAt, bnd, slD, List.getElem?_cons_zero, List.getElem?_cons_succ, Mem.cell, Mem.row, cells_own, cells_ro]
      exact hq oo M hM hoo
    · rw [if_neg hc] at hq
      have fin : ∀ (R : Value → Mem → Prop), (∀ v M, Q v M → R v M) → AbC Tryz.prog w0 72 [.pointer (some ⟨is, 0, none⟩), .nilIface] m2 R := fun R hR => c_sEnd (s := { s with tr := 1, left := s.wait }) (e := 0) h2 fun oo M hM hoo => hR _ _ (hq oo M hM hoo)
      cases hc1 : s.close with
      | false =>
        rw [hc1] at g2
        simp -implicitDefEqProofs (disch := first | assumption | omega | fail) [wkB, retV, stabOk, dC, ev, fillD, pickCells, putAt, bnd, slD, List.getElem?_cons_zero, List.getElem?_cons_succ, Mem.cell, Mem.row, cells_own, cells_ro, g2, hsl, ha, ha']
        refine fin _ fun v M hv => ?_
        simp -implicitDefEqProofs (disch := first | assumption | omega | fail) [wkB, retV, stabOk, dC, ev, fillD, pickCells, putAt, bnd, slD, List.getElem?_cons_zero, List.getElem?_cons_succ, Mem.cell, Mem.row, cells_own, cells_ro]
        exact hv
      | true =>
        have hp2 : s.phase = 2 := by
          by_cases hp : s.phase = 2
          · exact hp
          · exact absurd ⟨hc1, hp⟩ hc
        rw [hc1, hp2] at g2
        simp -implicitDefEqProofs (disch := first | assumption | omega | fail) [wkB, retV, stabOk, dC, ev, fillD, pickCells, putAt, bnd, slD, List.getElem?_cons_zero, List.getElem?_cons_succ, Mem.cell, Mem.row, cells_own, cells_ro, g2, hsl, ha, ha']
        refine fin _ fun v M hv => ?_
        simp -implicitDefEqProofs (disch := first | assumption | omega | fail) [wkB, retV, stabOk, dC, ev, fillD, pickCells, putAt, bnd, slD, List.getElem?_cons_zero, List.getElem?_cons_succ, Mem.cell, Mem.row, cells_own, cells_ro]
        exact hv
theorem c_sAgain {w0 : World} {V : Nat → Prop} {m0 m : Mem} {is : Nat} {ob : Option Nat} {vs : List Nat} {s : Sn} {Q : Value → Mem → Prop} (h : Sep m0 V m (snH is ob vs s)) (hvs : vs.length = s.blocks.length) (hob : ob = none → s.blocks.length = 0) (hd : s.phase = 1 → s.at_ < s.blocks.length)
    (hf : ∀ x ∈ s.blocks, x.2.length = 128 ∨ x.2.length = 1024) (hr : 1 ≤ s.tr ∧ s.tr ≤ 9) (hq : SnQ V m0 is ob vs (sAgainF s) Q) : AbC Tryz.prog w0 71 [.pointer (some ⟨is, 0, none⟩)] m Q := by
  refine AbC_fn ok71 (by simp) ?_
  have g0 := h.get 0 rfl
  simp only [snC] at g0
  unfold sAgainF at hq
  by_cases ht : s.tries ≤ s.tr
  · rw [if_pos ht] at hq
    simp -implicitDefEqProofs (disch := first | assumption | omega | fail) [rc71, ro71, wkB, retV, stabOk, dC, ev, fillD, pickCells, putAt, bnd, slD, List.getElem?_cons_zero, List.getElem?_cons_succ, Mem.cell, Mem.row, cells_own, cells_ro, g0, ht]
    refine c_sEnd (e := 10) h fun oo M hM hoo => ?_
    simp -implicitDefEqProofs (disch := first | assumption | omega | fail) [wkB, retV, stabOk, dC, ev, fillD, pickCells, putAt, bnd, slD, List.getElem?_cons_zero, List.getElem?_cons_succ, Mem.cell, Mem.row, cells_own, cells_ro]
    exact hq oo M hM hoo
  · rw [if_neg ht] at hq
    have w1 : IntKind.i64.wrap (s.tr + 1) = s.tr + 1 := w64 (by omega)
    simp -implicitDefEqProofs (disch := first | assumption | omega | fail) [rc71, ro71, wkB, retV, stabOk, dC, ev, fillD, pickCells, putAt, bnd, slD, List.getElem?_cons_zero, List.getElem?_cons_succ, Mem.cell, Mem.row, cells_own, cells_ro, g0, ht, rc71_0, w1]
    refine SK_stS h 0 rfl (o := 7) (vs := [.int .i64 (s.tr + 1)]) (cs' := snC { s with tr := s.tr + 1 } (slV ob s.blocks.length 2)) (by simp [wkB, retV, stabOk, dC, ev, fillD, pickCells, putAt, bnd, slD, List.getElem?_cons_zero, List.getElem?_cons_succ, Mem.cell, Mem.row, cells_own, cells_ro]) (by simp [wkB, retV, stabOk, dC, ev, fillD, pickCells, putAt, bnd, slD, List.getElem?_cons_zero, List.getElem?_cons_succ, Mem.cell, Mem.row, cells_own, cells_ro]) (by simp [snC]) rfl rfl (by simp [snC, putAt]) fun m1 h1 _ => ?_
    have g1 := h1.get 0 rfl
    simp only [snC] at g1
    simp -implicitDefEqProofs (disch := first | assumption | omega | fail) [wkB, retV, stabOk, dC, ev, fillD, pickCells, putAt, bnd, slD, List.getElem?_cons_zero, List.getElem?_cons_succ, Mem.cell, Mem.row, cells_own, cells_ro, g1]
    refine SK_stS h1 0 rfl (o := 8) (vs := [.int .i64 s.wait]) (cs' := snC { s with tr := s.tr + 1, left := s.wait } (slV ob s.blocks.length 2)) (by simp [wkB, retV, stabOk, dC, ev, fillD, pickCells, putAt, bnd, slD, List.getElem?_cons_zero, List.getElem?_cons_succ, Mem.cell, Mem.row, cells_own, cells_ro]) (by simp [wkB, retV, stabOk, dC, ev, fillD, pickCells, putAt, bnd, slD, List.getElem?_cons_zero, List.getElem?_cons_succ, Mem.cell, Mem.row, cells_own, cells_ro]) (by simp [snC]) rfl rfl (by simp [snC, putAt]) fun m2 h2 _ => ?_
    simp -implicitDefEqProofs (disch := first | assumption | omega | fail) [wkB, retV, stabOk, dC, ev, fillD, pickCells, putAt, bnd, slD, List.getElem?_cons_zero, List.getElem?_cons_succ, Mem.cell, Mem.row, cells_own, cells_ro]
    refine c_sNow (s := { s with tr := s.tr + 1, left := s.wait }) h2 hvs hob hd hf fun oo M hM hoo => ?_
    simp -implicitDefEqProofs (disch := first | assumption | omega | fail) [wkB, retV, stabOk, dC, ev, fillD, pickCells, putAt, bnd, slD, List.getElem?_cons_zero, List.getElem?_cons_succ, Mem.cell, Mem.row, cells_own, cells_ro]
    exact hq oo M hM hoo
end Go.Proofs.YthmhappejchilaaGreatDoor.Ab

set_option linter.unusedVariables false
set_option linter.unusedSimpArgs false
namespace Go.Proofs.YthmhappejchilaaGreatDoor.Ab
open Go Go.RowKit
set_option maxHeartbeats 4000000
set_option maxRecDepth 100000
theorem sNow_bl (s : Sn) : (sNowF s).1.blocks = s.blocks := by
  unfold sNowF
  split
  · split <;> rfl
  · split <;> rfl
theorem sNext_bl (s : Sn) : (sNextF s).1.blocks = s.blocks := by
  unfold sNextF
  split
  · exact sNow_bl _
  · split
    · exact sNow_bl _
    · rfl
theorem sAgain_bl (s : Sn) : (sAgainF s).1.blocks = s.blocks := by
  unfold sAgainF
  split
  · rfl
  · exact sNow_bl _
theorem sPut_bl (s : Sn) (c : UInt8) : (sPutF s c).1.blocks = s.blocks := by
  unfold sPutF
  split
  · rfl
  · split
    · rfl
    · split
      · exact sNext_bl _
      · split
        · rfl
        · split
          · exact sNext_bl _
          · split
            · exact sAgain_bl _
            · rfl
theorem sTick_bl (s : Sn) : (sTickF s).1.blocks = s.blocks := by
  unfold sTickF
  split
  · rfl
  · split
    · rfl
    · exact sAgain_bl _
/-- What a sender tells. -/
def SnT (V : Nat → Prop) (m : Mem) (is : Nat) (r : Sn × List UInt8) (Q : Value → Mem → Prop) : Prop :=
  ∀ oo H' M, Sep m V M (byH oo r.2 :: H') → SnR H' is r.1 → (oo = none → r.2.length = 0) → Q (slV oo r.2.length 1) M
theorem c_sTick {w0 : World} {V : Nat → Prop} {m : Mem} {H : HL} {is : Nat} {s : Sn} {Q : Value → Mem → Prop} (h : Sep m V m H) (hR : SnR H is s) (hq : SnT V m is (sTickF s) Q) :
    AbC Tryz.prog w0 47 [.pointer (some ⟨is, 0, none⟩)] m Q := by
  refine AbC_fn ok47 (by simp) ?_
  obtain ⟨⟨ob, vs, rfl, hvs, hob⟩, hw⟩ := hR
  have hw2 := sTick_w hw
  have hq2 : SnQ V m is ob vs (sTickF s) Q := fun oo M hM hoo => hq oo _ M hM ⟨⟨ob, vs, rfl, by rw [sTick_bl]; exact hvs, fun e => by rw [sTick_bl]; exact hob e⟩, hw2⟩ hoo
  clear hq hw2
  have g0 := h.get 0 rfl
  simp only [snC] at g0
  have hl2 := hw.l2
  have hl1 := hw.l1
  unfold sTickF at hq2
  by_cases h3 : s.phase = 3
  · rw [if_pos h3] at hq2
    rw [h3] at g0
    simp -implicitDefEqProofs (disch := first | assumption | omega | fail) [rc47, ro47, wkB, retV, stabOk, dC, ev, fillD, pickCells, putAt, bnd, slD, List.getElem?_cons_zero, List.getElem?_cons_succ, Mem.cell, Mem.row, cells_own, cells_ro, g0]
    exact hq2 none m (h.non _) (fun _ => rfl)
  · rw [if_neg h3] at hq2
    have e3 : ((s.phase : Int) == 3) = false := beq_eq_false_iff_ne.2 (by omega)
    have w1 : IntKind.i64.wrap (s.left - 1) = s.left - 1 := w64 (by omega)
    simp -implicitDefEqProofs (disch := first | assumption | omega | fail) [rc47, ro47, wkB, retV, stabOk, dC, ev, fillD, pickCells, putAt, bnd, slD, List.getElem?_cons_zero, List.getElem?_cons_succ, Mem.cell, Mem.row, cells_own, cells_ro, g0, e3, rc47_1, w1]
    refine SK_stS h 0 rfl (o := 8) (vs := [.int .i64 (s.left - 1)]) (cs' := snC { s with left := s.left - 1 } (slV ob s.blocks.length 2)) (by simp [wkB, retV, stabOk, dC, ev, fillD, pickCells, putAt, bnd, slD, List.getElem?_cons_zero, List.getElem?_cons_succ, Mem.cell, Mem.row, cells_own, cells_ro]) (by simp [wkB, retV, stabOk, dC, ev, fillD, pickCells, putAt, bnd, slD, List.getElem?_cons_zero, List.getElem?_cons_succ, Mem.cell, Mem.row, cells_own, cells_ro]) (by simp [snC]) rfl rfl (by simp [snC, putAt]) fun m1 h1 _ => ?_
    have g1 := h1.get 0 rfl
    simp only [snC] at g1
    by_cases hl : 0 < s.left - 1
    · rw [if_pos hl] at hq2
      have hl' : 1 < s.left := by omega
      simp -implicitDefEqProofs (disch := first | assumption | omega | fail) [wkB, retV, stabOk, dC, ev, fillD, pickCells, putAt, bnd, slD, List.getElem?_cons_zero, List.getElem?_cons_succ, Mem.cell, Mem.row, cells_own, cells_ro, g1, hl, hl']
      exact hq2 none m1 (h1.non _) (fun _ => rfl)
    · rw [if_neg hl] at hq2
      have hl' : ¬ 1 < s.left := by omega
      simp -implicitDefEqProofs (disch := first | assumption | omega | fail) [wkB, retV, stabOk, dC, ev, fillD, pickCells, putAt, bnd, slD, List.getElem?_cons_zero, List.getElem?_cons_succ, Mem.cell, Mem.row, cells_own, cells_ro, g1, hl, hl', rc47_0]
      refine c_sAgain (s := { s with left := s.left - 1 }) h1 hvs hob hw.d hw.f ⟨hw.r1, hw.r2⟩ fun oo M hM hoo => ?_
      simp -implicitDefEqProofs (disch := first | assumption | omega | fail) [wkB, retV, stabOk, dC, ev, fillD, pickCells, putAt, bnd, slD, List.getElem?_cons_zero, List.getElem?_cons_succ, Mem.cell, Mem.row, cells_own, cells_ro]
      exact hq2 oo M hM hoo
theorem kb (c : UInt8) (k : Nat) (z : Int) (hz : z = (k : Int)) (hk : k < 256) : (c = UInt8.ofNat k → ((c.toNat : Int) == z) = true) ∧ (c ≠ UInt8.ofNat k → ((c.toNat : Int) == z) = false) := by
  subst hz
  exact ⟨fun h => by rw [b8 c k hk]; simp [h], fun h => by rw [b8 c k hk]; simp [h]⟩
theorem c_sPut {w0 : World} {V : Nat → Prop} {m : Mem} {H : HL} {is : Nat} {s : Sn} {c : UInt8} {Q : Value → Mem → Prop} (h : Sep m V m H) (hR : SnR H is s) (hbl : s.blocks.length ≤ 4611686018427387904) (hq : SnT V m is (sPutF s c) Q) :
    AbC Tryz.prog w0 48 [.pointer (some ⟨is, 0, none⟩), .int .u8 (c.toNat : Int)] m Q := by
  refine AbC_fn ok48 (by simp) ?_
  obtain ⟨⟨ob, vs, rfl, hvs, hob⟩, hw⟩ := hR
  have hw2 := sPut_w hw c
  have hq2 : SnQ V m is ob vs (sPutF s c) Q := fun oo M hM hoo => hq oo _ M hM ⟨⟨ob, vs, rfl, by rw [sPut_bl]; exact hvs, fun e => by rw [sPut_bl]; exact hob e⟩, hw2⟩ hoo
  clear hq hw2
  have hbl2 : s.blocks.length ≤ 9223372036854775807 := by omega
  have g0 := h.get 0 rfl
  simp only [snC] at g0
  have ha := hw.a
  unfold sPutF at hq2
  by_cases h3 : s.phase = 3
  · rw [if_pos h3] at hq2
    rw [h3] at g0
    by_cases h24 : c = 24
    · have k24 := (kb c 24 24 rfl (by omega)).1 h24
      rw [show decide (c = 24) = true by rw [h24]; rfl] at hq2
      cases hcn : s.can with
      | false =>
        rw [hcn] at g0
        simp -implicitDefEqProofs (disch := first | assumption | omega | fail) [rc48, ro48, wkB, retV, stabOk, dC, ev, fillD, pickCells, putAt, bnd, slD, List.getElem?_cons_zero, List.getElem?_cons_succ, Mem.cell, Mem.row, cells_own, cells_ro, g0, k24]
        refine SK_stS h 0 rfl (o := 9) (vs := [.bool true]) (cs' := snC { s with can := true } (slV ob s.blocks.length 2)) (by simp [wkB, retV, stabOk, dC, ev, fillD, pickCells, putAt, bnd, slD, List.getElem?_cons_zero, List.getElem?_cons_succ, Mem.cell, Mem.row, cells_own, cells_ro]) (by simp [wkB, retV, stabOk, dC, ev, fillD, pickCells, putAt, bnd, slD, List.getElem?_cons_zero, List.getElem?_cons_succ, Mem.cell, Mem.row, cells_own, cells_ro, k24]) (by simp [snC]) rfl rfl (by simp [snC, putAt]) fun m1 h1 _ => ?_
        have g1 := h1.get 0 rfl
        simp only [snC] at g1
        rw [h3] at g1
        simp -implicitDefEqProofs (disch := first | assumption | omega | fail) [wkB, retV, stabOk, dC, ev, fillD, pickCells, putAt, bnd, slD, List.getElem?_cons_zero, List.getElem?_cons_succ, Mem.cell, Mem.row, cells_own, cells_ro, g1]
        exact hq2 none m1 (h1.non _) (fun _ => rfl)
      | true =>
        rw [hcn] at g0
        simp -implicitDefEqProofs (disch := first | assumption | omega | fail) [rc48, ro48, wkB, retV, stabOk, dC, ev, fillD, pickCells, putAt, bnd, slD, List.getElem?_cons_zero, List.getElem?_cons_succ, Mem.cell, Mem.row, cells_own, cells_ro, g0, k24]
        refine SK_stS h 0 rfl (o := 9) (vs := [.bool true]) (cs' := snC { s with can := true } (slV ob s.blocks.length 2)) (by simp [wkB, retV, stabOk, dC, ev, fillD, pickCells, putAt, bnd, slD, List.getElem?_cons_zero, List.getElem?_cons_succ, Mem.cell, Mem.row, cells_own, cells_ro]) (by simp [wkB, retV, stabOk, dC, ev, fillD, pickCells, putAt, bnd, slD, List.getElem?_cons_zero, List.getElem?_cons_succ, Mem.cell, Mem.row, cells_own, cells_ro, k24]) (by simp [snC]) rfl rfl (by simp [snC, putAt]) fun m1 h1 _ => ?_
        have g1 := h1.get 0 rfl
        simp only [snC] at g1
        rw [h3] at g1
        simp -implicitDefEqProofs (disch := first | assumption | omega | fail) [wkB, retV, stabOk, dC, ev, fillD, pickCells, putAt, bnd, slD, List.getElem?_cons_zero, List.getElem?_cons_succ, Mem.cell, Mem.row, cells_own, cells_ro, g1]
        exact hq2 none m1 (h1.non _) (fun _ => rfl)
    · have k24 := (kb c 24 24 rfl (by omega)).2 h24
      rw [show decide (c = 24) = false by simpa using h24] at hq2
      cases hcn : s.can with
      | false =>
        rw [hcn] at g0
        simp -implicitDefEqProofs (disch := first | assumption | omega | fail) [rc48, ro48, wkB, retV, stabOk, dC, ev, fillD, pickCells, putAt, bnd, slD, List.getElem?_cons_zero, List.getElem?_cons_succ, Mem.cell, Mem.row, cells_own, cells_ro, g0, k24]
        refine SK_stS h 0 rfl (o := 9) (vs := [.bool false]) (cs' := snC { s with can := false } (slV ob s.blocks.length 2)) (by simp [wkB, retV, stabOk, dC, ev, fillD, pickCells, putAt, bnd, slD, List.getElem?_cons_zero, List.getElem?_cons_succ, Mem.cell, Mem.row, cells_own, cells_ro]) (by simp [wkB, retV, stabOk, dC, ev, fillD, pickCells, putAt, bnd, slD, List.getElem?_cons_zero, List.getElem?_cons_succ, Mem.cell, Mem.row, cells_own, cells_ro, k24]) (by simp [snC]) rfl rfl (by simp [snC, putAt]) fun m1 h1 _ => ?_
        have g1 := h1.get 0 rfl
        simp only [snC] at g1
        rw [h3] at g1
        simp -implicitDefEqProofs (disch := first | assumption | omega | fail) [wkB, retV, stabOk, dC, ev, fillD, pickCells, putAt, bnd, slD, List.getElem?_cons_zero, List.getElem?_cons_succ, Mem.cell, Mem.row, cells_own, cells_ro, g1]
        exact hq2 none m1 (h1.non _) (fun _ => rfl)
      | true =>
        rw [hcn] at g0
        simp -implicitDefEqProofs (disch := first | assumption | omega | fail) [rc48, ro48, wkB, retV, stabOk, dC, ev, fillD, pickCells, putAt, bnd, slD, List.getElem?_cons_zero, List.getElem?_cons_succ, Mem.cell, Mem.row, cells_own, cells_ro, g0, k24]
        refine SK_stS h 0 rfl (o := 9) (vs := [.bool false]) (cs' := snC { s with can := false } (slV ob s.blocks.length 2)) (by simp [wkB, retV, stabOk, dC, ev, fillD, pickCells, putAt, bnd, slD, List.getElem?_cons_zero, List.getElem?_cons_succ, Mem.cell, Mem.row, cells_own, cells_ro]) (by simp [wkB, retV, stabOk, dC, ev, fillD, pickCells, putAt, bnd, slD, List.getElem?_cons_zero, List.getElem?_cons_succ, Mem.cell, Mem.row, cells_own, cells_ro, k24]) (by simp [snC]) rfl rfl (by simp [snC, putAt]) fun m1 h1 _ => ?_
        have g1 := h1.get 0 rfl
        simp only [snC] at g1
        rw [h3] at g1
        simp -implicitDefEqProofs (disch := first | assumption | omega | fail) [wkB, retV, stabOk, dC, ev, fillD, pickCells, putAt, bnd, slD, List.getElem?_cons_zero, List.getElem?_cons_succ, Mem.cell, Mem.row, cells_own, cells_ro, g1]
        exact hq2 none m1 (h1.non _) (fun _ => rfl)
  · rw [if_neg h3] at hq2
    have e3 : ((s.phase : Int) == 3) = false := beq_eq_false_iff_ne.2 (by omega)
    by_cases h24 : c = 24
    · have k24 := (kb c 24 24 rfl (by omega)).1 h24
      rw [show decide (c = 24) = true by rw [h24]; rfl] at hq2
      cases hcn : s.can with
      | true =>
        rw [hcn] at g0
        rw [if_pos ⟨hcn, h24⟩] at hq2
        simp -implicitDefEqProofs (disch := first | assumption | omega | fail) [rc48, ro48, wkB, retV, stabOk, dC, ev, fillD, pickCells, putAt, bnd, slD, List.getElem?_cons_zero, List.getElem?_cons_succ, Mem.cell, Mem.row, cells_own, cells_ro, g0, k24]
        refine SK_stS h 0 rfl (o := 9) (vs := [.bool true]) (cs' := snC { s with can := true } (slV ob s.blocks.length 2)) (by simp [wkB, retV, stabOk, dC, ev, fillD, pickCells, putAt, bnd, slD, List.getElem?_cons_zero, List.getElem?_cons_succ, Mem.cell, Mem.row, cells_own, cells_ro]) (by simp [wkB, retV, stabOk, dC, ev, fillD, pickCells, putAt, bnd, slD, List.getElem?_cons_zero, List.getElem?_cons_succ, Mem.cell, Mem.row, cells_own, cells_ro, k24]) (by simp [snC]) rfl rfl (by simp [snC, putAt]) fun m1 h1 _ => ?_
        have g1 := h1.get 0 rfl
        simp only [snC] at g1
        simp -implicitDefEqProofs (disch := first | assumption | omega | fail) [wkB, retV, stabOk, dC, ev, fillD, pickCells, putAt, bnd, slD, List.getElem?_cons_zero, List.getElem?_cons_succ, Mem.cell, Mem.row, cells_own, cells_ro, g1, e3]
        refine c_sEnd (s := { s with can := true }) (e := 9) h1 fun oo M hM hoo => ?_
        simp -implicitDefEqProofs (disch := first | assumption | omega | fail) [wkB, retV, stabOk, dC, ev, fillD, pickCells, putAt, bnd, slD, List.getElem?_cons_zero, List.getElem?_cons_succ, Mem.cell, Mem.row, cells_own, cells_ro]
        exact hq2 oo M hM hoo
      | false =>
        rw [hcn] at g0
        rw [if_neg (fun h => by rw [hcn] at h; cases h.1)] at hq2
        simp -implicitDefEqProofs (disch := first | assumption | omega | fail) [rc48, ro48, wkB, retV, stabOk, dC, ev, fillD, pickCells, putAt, bnd, slD, List.getElem?_cons_zero, List.getElem?_cons_succ, Mem.cell, Mem.row, cells_own, cells_ro, g0, k24]
        refine SK_stS h 0 rfl (o := 9) (vs := [.bool true]) (cs' := snC { s with can := true } (slV ob s.blocks.length 2)) (by simp [wkB, retV, stabOk, dC, ev, fillD, pickCells, putAt, bnd, slD, List.getElem?_cons_zero, List.getElem?_cons_succ, Mem.cell, Mem.row, cells_own, cells_ro]) (by simp [wkB, retV, stabOk, dC, ev, fillD, pickCells, putAt, bnd, slD, List.getElem?_cons_zero, List.getElem?_cons_succ, Mem.cell, Mem.row, cells_own, cells_ro, k24]) (by simp [snC]) rfl rfl (by simp [snC, putAt]) fun m1 h1 _ => ?_
        have g1 := h1.get 0 rfl
        simp only [snC] at g1
        by_cases h0 : s.phase = 0
        · rw [h0] at g1
          by_cases hg : c = 21 ∨ (c = 67 ∧ s.crc = true)
          · rw [if_pos ⟨h0, hg⟩] at hq2
            rcases hg with hg | ⟨hg, hcrc⟩
            · have k21 := (kb c 21 21 rfl (by omega)).1 hg
              have k67 := (kb c 67 67 rfl (by omega)).2 (by rw [hg]; decide)
              rw [show decide (c = 67) = false by rw [hg]; rfl] at hq2
              simp -implicitDefEqProofs (disch := first | assumption | omega | fail) [wkB, retV, stabOk, dC, ev, fillD, pickCells, putAt, bnd, slD, List.getElem?_cons_zero, List.getElem?_cons_succ, Mem.cell, Mem.row, cells_own, cells_ro, g1, k21, k67]
              refine SK_stS h1 0 rfl (o := 4) (vs := [.bool false]) (cs' := snC { s with can := true, crc := false } (slV ob s.blocks.length 2)) (by simp [wkB, retV, stabOk, dC, ev, fillD, pickCells, putAt, bnd, slD, List.getElem?_cons_zero, List.getElem?_cons_succ, Mem.cell, Mem.row, cells_own, cells_ro]) (by simp [wkB, retV, stabOk, dC, ev, fillD, pickCells, putAt, bnd, slD, List.getElem?_cons_zero, List.getElem?_cons_succ, Mem.cell, Mem.row, cells_own, cells_ro, k67]) (by simp [snC]) rfl rfl (by simp [snC, putAt]) fun m2 h2 _ => ?_
              simp -implicitDefEqProofs (disch := first | assumption | omega | fail) [wkB, retV, stabOk, dC, ev, fillD, pickCells, putAt, bnd, slD, List.getElem?_cons_zero, List.getElem?_cons_succ, Mem.cell, Mem.row, cells_own, cells_ro]
              refine c_sNext (s := { s with can := true, crc := false }) h2 hvs hob hw.f hbl2 fun oo M hM hoo => ?_
              simp -implicitDefEqProofs (disch := first | assumption | omega | fail) [wkB, retV, stabOk, dC, ev, fillD, pickCells, putAt, bnd, slD, List.getElem?_cons_zero, List.getElem?_cons_succ, Mem.cell, Mem.row, cells_own, cells_ro]
              exact hq2 oo M hM hoo
            · have k21 := (kb c 21 21 rfl (by omega)).2 (by rw [hg]; decide)
              have k67 := (kb c 67 67 rfl (by omega)).1 hg
              rw [show decide (c = 67) = true by rw [hg]; rfl] at hq2
              rw [hcrc] at g1
              simp -implicitDefEqProofs (disch := first | assumption | omega | fail) [wkB, retV, stabOk, dC, ev, fillD, pickCells, putAt, bnd, slD, List.getElem?_cons_zero, List.getElem?_cons_succ, Mem.cell, Mem.row, cells_own, cells_ro, g1, k21, k67]
              refine SK_stS h1 0 rfl (o := 4) (vs := [.bool true]) (cs' := snC { s with can := true, crc := true } (slV ob s.blocks.length 2)) (by simp [wkB, retV, stabOk, dC, ev, fillD, pickCells, putAt, bnd, slD, List.getElem?_cons_zero, List.getElem?_cons_succ, Mem.cell, Mem.row, cells_own, cells_ro]) (by simp [wkB, retV, stabOk, dC, ev, fillD, pickCells, putAt, bnd, slD, List.getElem?_cons_zero, List.getElem?_cons_succ, Mem.cell, Mem.row, cells_own, cells_ro, k67]) (by simp [snC]) rfl rfl (by simp [snC, putAt]) fun m2 h2 _ => ?_
              simp -implicitDefEqProofs (disch := first | assumption | omega | fail) [wkB, retV, stabOk, dC, ev, fillD, pickCells, putAt, bnd, slD, List.getElem?_cons_zero, List.getElem?_cons_succ, Mem.cell, Mem.row, cells_own, cells_ro]
              refine c_sNext (s := { s with can := true, crc := true }) h2 hvs hob hw.f hbl2 fun oo M hM hoo => ?_
              simp -implicitDefEqProofs (disch := first | assumption | omega | fail) [wkB, retV, stabOk, dC, ev, fillD, pickCells, putAt, bnd, slD, List.getElem?_cons_zero, List.getElem?_cons_succ, Mem.cell, Mem.row, cells_own, cells_ro]
              exact hq2 oo M hM hoo
          · rw [if_neg (fun h => hg h.2), if_pos h0] at hq2
            have k21 := (kb c 21 21 rfl (by omega)).2 (fun h => hg (.inl h))
            by_cases h67 : c = 67
            · have k67 := (kb c 67 67 rfl (by omega)).1 h67
              have hcrc : s.crc = false := by
                cases hx : s.crc with
                | false => rfl
                | true => exact absurd (.inr ⟨h67, hx⟩) hg
              rw [hcrc] at g1
              simp -implicitDefEqProofs (disch := first | assumption | omega | fail) [wkB, retV, stabOk, dC, ev, fillD, pickCells, putAt, bnd, slD, List.getElem?_cons_zero, List.getElem?_cons_succ, Mem.cell, Mem.row, cells_own, cells_ro, g1, k21, k67]
              exact hq2 none m1 (h1.non _) (fun _ => rfl)
            · have k67 := (kb c 67 67 rfl (by omega)).2 h67
              simp -implicitDefEqProofs (disch := first | assumption | omega | fail) [wkB, retV, stabOk, dC, ev, fillD, pickCells, putAt, bnd, slD, List.getElem?_cons_zero, List.getElem?_cons_succ, Mem.cell, Mem.row, cells_own, cells_ro, g1, k21, k67]
              exact hq2 none m1 (h1.non _) (fun _ => rfl)
        · have e0 : ((s.phase : Int) == 0) = false := beq_eq_false_iff_ne.2 (by omega)
          rw [if_neg (fun h => h0 h.1), if_neg h0] at hq2
          by_cases h6 : c = 6
          · rw [if_pos h6] at hq2
            have k6 := (kb c 6 6 rfl (by omega)).1 h6
            by_cases hp1 : s.phase = 1
            · rw [if_pos hp1] at hq2
              have w1 : IntKind.i64.wrap ((s.at_ : Int) + 1) = ((s.at_ + 1 : Nat) : Int) := by rw [w64 (by omega)]; omega
              obtain ⟨A1, hA1⟩ : ∃ A1, s.at_ + 1 = A1 := ⟨_, rfl⟩
              rw [hA1] at w1 hq2
              rw [hp1] at g1
              simp -implicitDefEqProofs (disch := first | assumption | omega | fail) [wkB, retV, stabOk, dC, ev, fillD, pickCells, putAt, bnd, slD, List.getElem?_cons_zero, List.getElem?_cons_succ, Mem.cell, Mem.row, cells_own, cells_ro, g1, e3, k6, w1]
              refine SK_stS h1 0 rfl (o := 6) (vs := [.int .i64 (A1 : Int)]) (cs' := snC { s with can := true, at_ := A1 } (slV ob s.blocks.length 2)) (by simp [wkB, retV, stabOk, dC, ev, fillD, pickCells, putAt, bnd, slD, List.getElem?_cons_zero, List.getElem?_cons_succ, Mem.cell, Mem.row, cells_own, cells_ro]) (by simp [wkB, retV, stabOk, dC, ev, fillD, pickCells, putAt, bnd, slD, List.getElem?_cons_zero, List.getElem?_cons_succ, Mem.cell, Mem.row, cells_own, cells_ro]) (by simp [snC]) rfl rfl (by simp [snC, putAt]) fun m2 h2 _ => ?_
              simp -implicitDefEqProofs (disch := first | assumption | omega | fail) [wkB, retV, stabOk, dC, ev, fillD, pickCells, putAt, bnd, slD, List.getElem?_cons_zero, List.getElem?_cons_succ, Mem.cell, Mem.row, cells_own, cells_ro, rc48_0]
              refine c_sNext (s := { s with can := true, at_ := A1 }) h2 hvs hob hw.f hbl2 fun oo M hM hoo => ?_
              simp -implicitDefEqProofs (disch := first | assumption | omega | fail) [wkB, retV, stabOk, dC, ev, fillD, pickCells, putAt, bnd, slD, List.getElem?_cons_zero, List.getElem?_cons_succ, Mem.cell, Mem.row, cells_own, cells_ro]
              exact hq2 oo M hM hoo
            · rw [if_neg hp1] at hq2
              have e1 : ((s.phase : Int) == 1) = false := beq_eq_false_iff_ne.2 (by omega)
              simp -implicitDefEqProofs (disch := first | assumption | omega | fail) [wkB, retV, stabOk, dC, ev, fillD, pickCells, putAt, bnd, slD, List.getElem?_cons_zero, List.getElem?_cons_succ, Mem.cell, Mem.row, cells_own, cells_ro, g1, e3, e0, e1, k6, rc48_0]
              refine c_sNext (s := { s with can := true }) h1 hvs hob hw.f hbl2 fun oo M hM hoo => ?_
              simp -implicitDefEqProofs (disch := first | assumption | omega | fail) [wkB, retV, stabOk, dC, ev, fillD, pickCells, putAt, bnd, slD, List.getElem?_cons_zero, List.getElem?_cons_succ, Mem.cell, Mem.row, cells_own, cells_ro]
              exact hq2 oo M hM hoo
          · rw [if_neg h6] at hq2
            have k6 := (kb c 6 6 rfl (by omega)).2 h6
            by_cases h21 : c = 21
            · rw [if_pos h21] at hq2
              have k21 := (kb c 21 21 rfl (by omega)).1 h21
              simp -implicitDefEqProofs (disch := first | assumption | omega | fail) [wkB, retV, stabOk, dC, ev, fillD, pickCells, putAt, bnd, slD, List.getElem?_cons_zero, List.getElem?_cons_succ, Mem.cell, Mem.row, cells_own, cells_ro, g1, e3, e0, k6, k21]
              refine c_sAgain (s := { s with can := true }) h1 hvs hob hw.d hw.f ⟨hw.r1, hw.r2⟩ fun oo M hM hoo => ?_
              simp -implicitDefEqProofs (disch := first | assumption | omega | fail) [wkB, retV, stabOk, dC, ev, fillD, pickCells, putAt, bnd, slD, List.getElem?_cons_zero, List.getElem?_cons_succ, Mem.cell, Mem.row, cells_own, cells_ro]
              exact hq2 oo M hM hoo
            · rw [if_neg h21] at hq2
              have k21 := (kb c 21 21 rfl (by omega)).2 h21
              simp -implicitDefEqProofs (disch := first | assumption | omega | fail) [wkB, retV, stabOk, dC, ev, fillD, pickCells, putAt, bnd, slD, List.getElem?_cons_zero, List.getElem?_cons_succ, Mem.cell, Mem.row, cells_own, cells_ro, g1, e3, e0, k6, k21, rc48_1]
              exact hq2 none m1 (h1.non _) (fun _ => rfl)
    · have k24 := (kb c 24 24 rfl (by omega)).2 h24
      rw [show decide (c = 24) = false by simpa using h24, if_neg (fun h => h24 h.2)] at hq2
      cases hcn : s.can with
      | true =>
        rw [hcn] at g0
        simp -implicitDefEqProofs (disch := first | assumption | omega | fail) [rc48, ro48, wkB, retV, stabOk, dC, ev, fillD, pickCells, putAt, bnd, slD, List.getElem?_cons_zero, List.getElem?_cons_succ, Mem.cell, Mem.row, cells_own, cells_ro, g0, k24]
        refine SK_stS h 0 rfl (o := 9) (vs := [.bool false]) (cs' := snC { s with can := false } (slV ob s.blocks.length 2)) (by simp [wkB, retV, stabOk, dC, ev, fillD, pickCells, putAt, bnd, slD, List.getElem?_cons_zero, List.getElem?_cons_succ, Mem.cell, Mem.row, cells_own, cells_ro]) (by simp [wkB, retV, stabOk, dC, ev, fillD, pickCells, putAt, bnd, slD, List.getElem?_cons_zero, List.getElem?_cons_succ, Mem.cell, Mem.row, cells_own, cells_ro, k24]) (by simp [snC]) rfl rfl (by simp [snC, putAt]) fun m1 h1 _ => ?_
        have g1 := h1.get 0 rfl
        simp only [snC] at g1
        by_cases h0 : s.phase = 0
        · rw [h0] at g1
          by_cases hg : c = 21 ∨ (c = 67 ∧ s.crc = true)
          · rw [if_pos ⟨h0, hg⟩] at hq2
            rcases hg with hg | ⟨hg, hcrc⟩
            · have k21 := (kb c 21 21 rfl (by omega)).1 hg
              have k67 := (kb c 67 67 rfl (by omega)).2 (by rw [hg]; decide)
              rw [show decide (c = 67) = false by rw [hg]; rfl] at hq2
              simp -implicitDefEqProofs (disch := first | assumption | omega | fail) [wkB, retV, stabOk, dC, ev, fillD, pickCells, putAt, bnd, slD, List.getElem?_cons_zero, List.getElem?_cons_succ, Mem.cell, Mem.row, cells_own, cells_ro, g1, k21, k67]
              refine SK_stS h1 0 rfl (o := 4) (vs := [.bool false]) (cs' := snC { s with can := false, crc := false } (slV ob s.blocks.length 2)) (by simp [wkB, retV, stabOk, dC, ev, fillD, pickCells, putAt, bnd, slD, List.getElem?_cons_zero, List.getElem?_cons_succ, Mem.cell, Mem.row, cells_own, cells_ro]) (by simp [wkB, retV, stabOk, dC, ev, fillD, pickCells, putAt, bnd, slD, List.getElem?_cons_zero, List.getElem?_cons_succ, Mem.cell, Mem.row, cells_own, cells_ro, k67]) (by simp [snC]) rfl rfl (by simp [snC, putAt]) fun m2 h2 _ => ?_
              simp -implicitDefEqProofs (disch := first | assumption | omega | fail) [wkB, retV, stabOk, dC, ev, fillD, pickCells, putAt, bnd, slD, List.getElem?_cons_zero, List.getElem?_cons_succ, Mem.cell, Mem.row, cells_own, cells_ro]
              refine c_sNext (s := { s with can := false, crc := false }) h2 hvs hob hw.f hbl2 fun oo M hM hoo => ?_
              simp -implicitDefEqProofs (disch := first | assumption | omega | fail) [wkB, retV, stabOk, dC, ev, fillD, pickCells, putAt, bnd, slD, List.getElem?_cons_zero, List.getElem?_cons_succ, Mem.cell, Mem.row, cells_own, cells_ro]
              exact hq2 oo M hM hoo
            · have k21 := (kb c 21 21 rfl (by omega)).2 (by rw [hg]; decide)
              have k67 := (kb c 67 67 rfl (by omega)).1 hg
              rw [show decide (c = 67) = true by rw [hg]; rfl] at hq2
              rw [hcrc] at g1
              simp -implicitDefEqProofs (disch := first | assumption | omega | fail) [wkB, retV, stabOk, dC, ev, fillD, pickCells, putAt, bnd, slD, List.getElem?_cons_zero, List.getElem?_cons_succ, Mem.cell, Mem.row, cells_own, cells_ro, g1, k21, k67]
              refine SK_stS h1 0 rfl (o := 4) (vs := [.bool true]) (cs' := snC { s with can := false, crc := true } (slV ob s.blocks.length 2)) (by simp [wkB, retV, stabOk, dC, ev, fillD, pickCells, putAt, bnd, slD, List.getElem?_cons_zero, List.getElem?_cons_succ, Mem.cell, Mem.row, cells_own, cells_ro]) (by simp [wkB, retV, stabOk, dC, ev, fillD, pickCells, putAt, bnd, slD, List.getElem?_cons_zero, List.getElem?_cons_succ, Mem.cell, Mem.row, cells_own, cells_ro, k67]) (by simp [snC]) rfl rfl (by simp [snC, putAt]) fun m2 h2 _ => ?_
              simp -implicitDefEqProofs (disch := first | assumption | omega | fail) [wkB, retV, stabOk, dC, ev, fillD, pickCells, putAt, bnd, slD, List.getElem?_cons_zero, List.getElem?_cons_succ, Mem.cell, Mem.row, cells_own, cells_ro]
              refine c_sNext (s := { s with can := false, crc := true }) h2 hvs hob hw.f hbl2 fun oo M hM hoo => ?_
              simp -implicitDefEqProofs (disch := first | assumption | omega | fail) [wkB, retV, stabOk, dC, ev, fillD, pickCells, putAt, bnd, slD, List.getElem?_cons_zero, List.getElem?_cons_succ, Mem.cell, Mem.row, cells_own, cells_ro]
              exact hq2 oo M hM hoo
          · rw [if_neg (fun h => hg h.2), if_pos h0] at hq2
            have k21 := (kb c 21 21 rfl (by omega)).2 (fun h => hg (.inl h))
            by_cases h67 : c = 67
            · have k67 := (kb c 67 67 rfl (by omega)).1 h67
              have hcrc : s.crc = false := by
                cases hx : s.crc with
                | false => rfl
                | true => exact absurd (.inr ⟨h67, hx⟩) hg
              rw [hcrc] at g1
              simp -implicitDefEqProofs (disch := first | assumption | omega | fail) [wkB, retV, stabOk, dC, ev, fillD, pickCells, putAt, bnd, slD, List.getElem?_cons_zero, List.getElem?_cons_succ, Mem.cell, Mem.row, cells_own, cells_ro, g1, k21, k67]
              exact hq2 none m1 (h1.non _) (fun _ => rfl)
            · have k67 := (kb c 67 67 rfl (by omega)).2 h67
              simp -implicitDefEqProofs (disch := first | assumption | omega | fail) [wkB, retV, stabOk, dC, ev, fillD, pickCells, putAt, bnd, slD, List.getElem?_cons_zero, List.getElem?_cons_succ, Mem.cell, Mem.row, cells_own, cells_ro, g1, k21, k67]
              exact hq2 none m1 (h1.non _) (fun _ => rfl)
        · have e0 : ((s.phase : Int) == 0) = false := beq_eq_false_iff_ne.2 (by omega)
          rw [if_neg (fun h => h0 h.1), if_neg h0] at hq2
          by_cases h6 : c = 6
          · rw [if_pos h6] at hq2
            have k6 := (kb c 6 6 rfl (by omega)).1 h6
            by_cases hp1 : s.phase = 1
            · rw [if_pos hp1] at hq2
              have w1 : IntKind.i64.wrap ((s.at_ : Int) + 1) = ((s.at_ + 1 : Nat) : Int) := by rw [w64 (by omega)]; omega
              obtain ⟨A1, hA1⟩ : ∃ A1, s.at_ + 1 = A1 := ⟨_, rfl⟩
              rw [hA1] at w1 hq2
              rw [hp1] at g1
              simp -implicitDefEqProofs (disch := first | assumption | omega | fail) [wkB, retV, stabOk, dC, ev, fillD, pickCells, putAt, bnd, slD, List.getElem?_cons_zero, List.getElem?_cons_succ, Mem.cell, Mem.row, cells_own, cells_ro, g1, e3, k6, w1]
              refine SK_stS h1 0 rfl (o := 6) (vs := [.int .i64 (A1 : Int)]) (cs' := snC { s with can := false, at_ := A1 } (slV ob s.blocks.length 2)) (by simp [wkB, retV, stabOk, dC, ev, fillD, pickCells, putAt, bnd, slD, List.getElem?_cons_zero, List.getElem?_cons_succ, Mem.cell, Mem.row, cells_own, cells_ro]) (by simp [wkB, retV, stabOk, dC, ev, fillD, pickCells, putAt, bnd, slD, List.getElem?_cons_zero, List.getElem?_cons_succ, Mem.cell, Mem.row, cells_own, cells_ro]) (by simp [snC]) rfl rfl (by simp [snC, putAt]) fun m2 h2 _ => ?_
              simp -implicitDefEqProofs (disch := first | assumption | omega | fail) [wkB, retV, stabOk, dC, ev, fillD, pickCells, putAt, bnd, slD, List.getElem?_cons_zero, List.getElem?_cons_succ, Mem.cell, Mem.row, cells_own, cells_ro, rc48_0]
              refine c_sNext (s := { s with can := false, at_ := A1 }) h2 hvs hob hw.f hbl2 fun oo M hM hoo => ?_
              simp -implicitDefEqProofs (disch := first | assumption | omega | fail) [wkB, retV, stabOk, dC, ev, fillD, pickCells, putAt, bnd, slD, List.getElem?_cons_zero, List.getElem?_cons_succ, Mem.cell, Mem.row, cells_own, cells_ro]
              exact hq2 oo M hM hoo
            · rw [if_neg hp1] at hq2
              have e1 : ((s.phase : Int) == 1) = false := beq_eq_false_iff_ne.2 (by omega)
              simp -implicitDefEqProofs (disch := first | assumption | omega | fail) [wkB, retV, stabOk, dC, ev, fillD, pickCells, putAt, bnd, slD, List.getElem?_cons_zero, List.getElem?_cons_succ, Mem.cell, Mem.row, cells_own, cells_ro, g1, e3, e0, e1, k6, rc48_0]
              refine c_sNext (s := { s with can := false }) h1 hvs hob hw.f hbl2 fun oo M hM hoo => ?_
              simp -implicitDefEqProofs (disch := first | assumption | omega | fail) [wkB, retV, stabOk, dC, ev, fillD, pickCells, putAt, bnd, slD, List.getElem?_cons_zero, List.getElem?_cons_succ, Mem.cell, Mem.row, cells_own, cells_ro]
              exact hq2 oo M hM hoo
          · rw [if_neg h6] at hq2
            have k6 := (kb c 6 6 rfl (by omega)).2 h6
            by_cases h21 : c = 21
            · rw [if_pos h21] at hq2
              have k21 := (kb c 21 21 rfl (by omega)).1 h21
              simp -implicitDefEqProofs (disch := first | assumption | omega | fail) [wkB, retV, stabOk, dC, ev, fillD, pickCells, putAt, bnd, slD, List.getElem?_cons_zero, List.getElem?_cons_succ, Mem.cell, Mem.row, cells_own, cells_ro, g1, e3, e0, k6, k21]
              refine c_sAgain (s := { s with can := false }) h1 hvs hob hw.d hw.f ⟨hw.r1, hw.r2⟩ fun oo M hM hoo => ?_
              simp -implicitDefEqProofs (disch := first | assumption | omega | fail) [wkB, retV, stabOk, dC, ev, fillD, pickCells, putAt, bnd, slD, List.getElem?_cons_zero, List.getElem?_cons_succ, Mem.cell, Mem.row, cells_own, cells_ro]
              exact hq2 oo M hM hoo
            · rw [if_neg h21] at hq2
              have k21 := (kb c 21 21 rfl (by omega)).2 h21
              simp -implicitDefEqProofs (disch := first | assumption | omega | fail) [wkB, retV, stabOk, dC, ev, fillD, pickCells, putAt, bnd, slD, List.getElem?_cons_zero, List.getElem?_cons_succ, Mem.cell, Mem.row, cells_own, cells_ro, g1, e3, e0, k6, k21, rc48_1]
              exact hq2 none m1 (h1.non _) (fun _ => rfl)
      | false =>
        rw [hcn] at g0
        simp -implicitDefEqProofs (disch := first | assumption | omega | fail) [rc48, ro48, wkB, retV, stabOk, dC, ev, fillD, pickCells, putAt, bnd, slD, List.getElem?_cons_zero, List.getElem?_cons_succ, Mem.cell, Mem.row, cells_own, cells_ro, g0, k24]
        refine SK_stS h 0 rfl (o := 9) (vs := [.bool false]) (cs' := snC { s with can := false } (slV ob s.blocks.length 2)) (by simp [wkB, retV, stabOk, dC, ev, fillD, pickCells, putAt, bnd, slD, List.getElem?_cons_zero, List.getElem?_cons_succ, Mem.cell, Mem.row, cells_own, cells_ro]) (by simp [wkB, retV, stabOk, dC, ev, fillD, pickCells, putAt, bnd, slD, List.getElem?_cons_zero, List.getElem?_cons_succ, Mem.cell, Mem.row, cells_own, cells_ro, k24]) (by simp [snC]) rfl rfl (by simp [snC, putAt]) fun m1 h1 _ => ?_
        have g1 := h1.get 0 rfl
        simp only [snC] at g1
        by_cases h0 : s.phase = 0
        · rw [h0] at g1
          by_cases hg : c = 21 ∨ (c = 67 ∧ s.crc = true)
          · rw [if_pos ⟨h0, hg⟩] at hq2
            rcases hg with hg | ⟨hg, hcrc⟩
            · have k21 := (kb c 21 21 rfl (by omega)).1 hg
              have k67 := (kb c 67 67 rfl (by omega)).2 (by rw [hg]; decide)
              rw [show decide (c = 67) = false by rw [hg]; rfl] at hq2
              simp -implicitDefEqProofs (disch := first | assumption | omega | fail) [wkB, retV, stabOk, dC, ev, fillD, pickCells, putAt, bnd, slD, List.getElem?_cons_zero, List.getElem?_cons_succ, Mem.cell, Mem.row, cells_own, cells_ro, g1, k21, k67]
              refine SK_stS h1 0 rfl (o := 4) (vs := [.bool false]) (cs' := snC { s with can := false, crc := false } (slV ob s.blocks.length 2)) (by simp [wkB, retV, stabOk, dC, ev, fillD, pickCells, putAt, bnd, slD, List.getElem?_cons_zero, List.getElem?_cons_succ, Mem.cell, Mem.row, cells_own, cells_ro]) (by simp [wkB, retV, stabOk, dC, ev, fillD, pickCells, putAt, bnd, slD, List.getElem?_cons_zero, List.getElem?_cons_succ, Mem.cell, Mem.row, cells_own, cells_ro, k67]) (by simp [snC]) rfl rfl (by simp [snC, putAt]) fun m2 h2 _ => ?_
              simp -implicitDefEqProofs (disch := first | assumption | omega | fail) [wkB, retV, stabOk, dC, ev, fillD, pickCells, putAt, bnd, slD, List.getElem?_cons_zero, List.getElem?_cons_succ, Mem.cell, Mem.row, cells_own, cells_ro]
              refine c_sNext (s := { s with can := false, crc := false }) h2 hvs hob hw.f hbl2 fun oo M hM hoo => ?_
              simp -implicitDefEqProofs (disch := first | assumption | omega | fail) [wkB, retV, stabOk, dC, ev, fillD, pickCells, putAt, bnd, slD, List.getElem?_cons_zero, List.getElem?_cons_succ, Mem.cell, Mem.row, cells_own, cells_ro]
              exact hq2 oo M hM hoo
            · have k21 := (kb c 21 21 rfl (by omega)).2 (by rw [hg]; decide)
              have k67 := (kb c 67 67 rfl (by omega)).1 hg
              rw [show decide (c = 67) = true by rw [hg]; rfl] at hq2
              rw [hcrc] at g1
              simp -implicitDefEqProofs (disch := first | assumption | omega | fail) [wkB, retV, stabOk, dC, ev, fillD, pickCells, putAt, bnd, slD, List.getElem?_cons_zero, List.getElem?_cons_succ, Mem.cell, Mem.row, cells_own, cells_ro, g1, k21, k67]
              refine SK_stS h1 0 rfl (o := 4) (vs := [.bool true]) (cs' := snC { s with can := false, crc := true } (slV ob s.blocks.length 2)) (by simp [wkB, retV, stabOk, dC, ev, fillD, pickCells, putAt, bnd, slD, List.getElem?_cons_zero, List.getElem?_cons_succ, Mem.cell, Mem.row, cells_own, cells_ro]) (by simp [wkB, retV, stabOk, dC, ev, fillD, pickCells, putAt, bnd, slD, List.getElem?_cons_zero, List.getElem?_cons_succ, Mem.cell, Mem.row, cells_own, cells_ro, k67]) (by simp [snC]) rfl rfl (by simp [snC, putAt]) fun m2 h2 _ => ?_
              simp -implicitDefEqProofs (disch := first | assumption | omega | fail) [wkB, retV, stabOk, dC, ev, fillD, pickCells, putAt, bnd, slD, List.getElem?_cons_zero, List.getElem?_cons_succ, Mem.cell, Mem.row, cells_own, cells_ro]
              refine c_sNext (s := { s with can := false, crc := true }) h2 hvs hob hw.f hbl2 fun oo M hM hoo => ?_
              simp -implicitDefEqProofs (disch := first | assumption | omega | fail) [wkB, retV, stabOk, dC, ev, fillD, pickCells, putAt, bnd, slD, List.getElem?_cons_zero, List.getElem?_cons_succ, Mem.cell, Mem.row, cells_own, cells_ro]
              exact hq2 oo M hM hoo
          · rw [if_neg (fun h => hg h.2), if_pos h0] at hq2
            have k21 := (kb c 21 21 rfl (by omega)).2 (fun h => hg (.inl h))
            by_cases h67 : c = 67
            · have k67 := (kb c 67 67 rfl (by omega)).1 h67
              have hcrc : s.crc = false := by
                cases hx : s.crc with
                | false => rfl
                | true => exact absurd (.inr ⟨h67, hx⟩) hg
              rw [hcrc] at g1
              simp -implicitDefEqProofs (disch := first | assumption | omega | fail) [wkB, retV, stabOk, dC, ev, fillD, pickCells, putAt, bnd, slD, List.getElem?_cons_zero, List.getElem?_cons_succ, Mem.cell, Mem.row, cells_own, cells_ro, g1, k21, k67]
              exact hq2 none m1 (h1.non _) (fun _ => rfl)
            · have k67 := (kb c 67 67 rfl (by omega)).2 h67
              simp -implicitDefEqProofs (disch := first | assumption | omega | fail) [wkB, retV, stabOk, dC, ev, fillD, pickCells, putAt, bnd, slD, List.getElem?_cons_zero, List.getElem?_cons_succ, Mem.cell, Mem.row, cells_own, cells_ro, g1, k21, k67]
              exact hq2 none m1 (h1.non _) (fun _ => rfl)
        · have e0 : ((s.phase : Int) == 0) = false := beq_eq_false_iff_ne.2 (by omega)
          rw [if_neg (fun h => h0 h.1), if_neg h0] at hq2
          by_cases h6 : c = 6
          · rw [if_pos h6] at hq2
            have k6 := (kb c 6 6 rfl (by omega)).1 h6
            by_cases hp1 : s.phase = 1
            · rw [if_pos hp1] at hq2
              have w1 : IntKind.i64.wrap ((s.at_ : Int) + 1) = ((s.at_ + 1 : Nat) : Int) := by rw [w64 (by omega)]; omega
              obtain ⟨A1, hA1⟩ : ∃ A1, s.at_ + 1 = A1 := ⟨_, rfl⟩
              rw [hA1] at w1 hq2
              rw [hp1] at g1
              simp -implicitDefEqProofs (disch := first | assumption | omega | fail) [wkB, retV, stabOk, dC, ev, fillD, pickCells, putAt, bnd, slD, List.getElem?_cons_zero, List.getElem?_cons_succ, Mem.cell, Mem.row, cells_own, cells_ro, g1, e3, k6, w1]
              refine SK_stS h1 0 rfl (o := 6) (vs := [.int .i64 (A1 : Int)]) (cs' := snC { s with can := false, at_ := A1 } (slV ob s.blocks.length 2)) (by simp [wkB, retV, stabOk, dC, ev, fillD, pickCells, putAt, bnd, slD, List.getElem?_cons_zero, List.getElem?_cons_succ, Mem.cell, Mem.row, cells_own, cells_ro]) (by simp [wkB, retV, stabOk, dC, ev, fillD, pickCells, putAt, bnd, slD, List.getElem?_cons_zero, List.getElem?_cons_succ, Mem.cell, Mem.row, cells_own, cells_ro]) (by simp [snC]) rfl rfl (by simp [snC, putAt]) fun m2 h2 _ => ?_
              simp -implicitDefEqProofs (disch := first | assumption | omega | fail) [wkB, retV, stabOk, dC, ev, fillD, pickCells, putAt, bnd, slD, List.getElem?_cons_zero, List.getElem?_cons_succ, Mem.cell, Mem.row, cells_own, cells_ro, rc48_0]
              refine c_sNext (s := { s with can := false, at_ := A1 }) h2 hvs hob hw.f hbl2 fun oo M hM hoo => ?_
              simp -implicitDefEqProofs (disch := first | assumption | omega | fail) [wkB, retV, stabOk, dC, ev, fillD, pickCells, putAt, bnd, slD, List.getElem?_cons_zero, List.getElem?_cons_succ, Mem.cell, Mem.row, cells_own, cells_ro]
              exact hq2 oo M hM hoo
            · rw [if_neg hp1] at hq2
              have e1 : ((s.phase : Int) == 1) = false := beq_eq_false_iff_ne.2 (by omega)
              simp -implicitDefEqProofs (disch := first | assumption | omega | fail) [wkB, retV, stabOk, dC, ev, fillD, pickCells, putAt, bnd, slD, List.getElem?_cons_zero, List.getElem?_cons_succ, Mem.cell, Mem.row, cells_own, cells_ro, g1, e3, e0, e1, k6, rc48_0]
              refine c_sNext (s := { s with can := false }) h1 hvs hob hw.f hbl2 fun oo M hM hoo => ?_
              simp -implicitDefEqProofs (disch := first | assumption | omega | fail) [wkB, retV, stabOk, dC, ev, fillD, pickCells, putAt, bnd, slD, List.getElem?_cons_zero, List.getElem?_cons_succ, Mem.cell, Mem.row, cells_own, cells_ro]
              exact hq2 oo M hM hoo
          · rw [if_neg h6] at hq2
            have k6 := (kb c 6 6 rfl (by omega)).2 h6
            by_cases h21 : c = 21
            · rw [if_pos h21] at hq2
              have k21 := (kb c 21 21 rfl (by omega)).1 h21
              simp -implicitDefEqProofs (disch := first | assumption | omega | fail) [wkB, retV, stabOk, dC, ev, fillD, pickCells, putAt, bnd, slD, List.getElem?_cons_zero, List.getElem?_cons_succ, Mem.cell, Mem.row, cells_own, cells_ro, g1, e3, e0, k6, k21]
              refine c_sAgain (s := { s with can := false }) h1 hvs hob hw.d hw.f ⟨hw.r1, hw.r2⟩ fun oo M hM hoo => ?_
              simp -implicitDefEqProofs (disch := first | assumption | omega | fail) [wkB, retV, stabOk, dC, ev, fillD, pickCells, putAt, bnd, slD, List.getElem?_cons_zero, List.getElem?_cons_succ, Mem.cell, Mem.row, cells_own, cells_ro]
              exact hq2 oo M hM hoo
            · rw [if_neg h21] at hq2
              have k21 := (kb c 21 21 rfl (by omega)).2 h21
              simp -implicitDefEqProofs (disch := first | assumption | omega | fail) [wkB, retV, stabOk, dC, ev, fillD, pickCells, putAt, bnd, slD, List.getElem?_cons_zero, List.getElem?_cons_succ, Mem.cell, Mem.row, cells_own, cells_ro, g1, e3, e0, k6, k21, rc48_1]
              exact hq2 none m1 (h1.non _) (fun _ => rfl)
end Go.Proofs.YthmhappejchilaaGreatDoor.Ab

set_option linter.unusedVariables false
set_option linter.unusedSimpArgs false
namespace Go.Proofs.YthmhappejchilaaGreatDoor.Ab
open Go Go.RowKit
set_option maxHeartbeats 4000000
set_option maxRecDepth 100000
theorem RdV.oneC' {X : Nat → Prop} {m : Mem} {v : Value} {l : List UInt8} (h : RdV X m 1 v (l.map byteV) l.length) : cellsV v = [v] ∧ oneC v = true := by
  rcases h.sl.2 with ⟨_, rfl | rfl⟩ | ⟨i, o, L, rfl, _⟩ <;> exact ⟨rfl, rfl⟩
theorem c_sDone {w0 : World} {V : Nat → Prop} {m0 m : Mem} {l H : HL} {is : Nat} {s : Sn} {Q : Value → Mem → Prop} (h : Sep m0 V m l) (hR : SnR H is s) (hs : ∀ p ∈ H, p ∈ l)
    (hq : Q (.tuple ⟨[.bool (decide (s.phase = 3)), errV s.err]⟩) m) : AbC Tryz.prog w0 70 [.pointer (some ⟨is, 0, none⟩)] m Q := by
  refine AbC_fn ok70 (by simp) ?_
  obtain ⟨⟨ob, vs, rfl, hvs, hob⟩, hw⟩ := hR
  have g0 := h.mem (hs _ (List.mem_cons_self ..))
  simp only [snC] at g0
  have e3 : ((s.phase : Int) == 3) = decide (s.phase = 3) := by
    by_cases h : s.phase = 3
    · simp [h]
    · rw [beq_eq_false_iff_ne.2 (by omega)]; simp [h]
  obtain ⟨d, hd⟩ : ∃ d, decide (s.phase = 3) = d := ⟨_, rfl⟩
  rw [hd] at e3 hq
  simp -implicitDefEqProofs (disch := first | assumption | omega | fail) [rc70, ro70, wkB, retV, stabOk, dC, ev, fillD, pickCells, putAt, bnd, slD, List.getElem?_cons_zero, List.getElem?_cons_succ, Mem.cell, Mem.row, cells_own, cells_ro, g0, e3]
  exact hq
theorem c_fit {w0 : World} {V : Nat → Prop} {m0 m : Mem} {l : HL} {tr wt : Int} {Q : Value → Mem → Prop} (h : Sep m0 V m l)
    (hq : ∀ M, Sep m0 V M l → Q (.agg ⟨[.int .i64 (clampI 1 9 tr), .int .i64 (clampI 1 99 wt)]⟩) M) : AbC Tryz.prog w0 64 [.agg ⟨[.int .i64 tr, .int .i64 wt]⟩] m Q := by
  refine AbC_fn ok64 (by simp) ?_
  simp -implicitDefEqProofs (disch := first | assumption | omega | fail) [rc64, ro64, wkB, retV, stabOk, dC, ev, fillD, pickCells, putAt, bnd, slD, List.getElem?_cons_zero, List.getElem?_cons_succ, Mem.cell, Mem.row, cells_own, cells_ro]
  refine SK_bxS h (cs := [.int .i64 tr, .int .i64 wt]) (by simp [wkB, retV, stabOk, dC, ev, fillD, pickCells, putAt, bnd, slD, List.getElem?_cons_zero, List.getElem?_cons_succ, Mem.cell, Mem.row, cells_own, cells_ro]) fun B m1 h1 _ _ => ?_
  simp -implicitDefEqProofs (disch := first | assumption | omega | fail) [wkB, retV, stabOk, dC, ev, fillD, pickCells, putAt, bnd, slD, List.getElem?_cons_zero, List.getElem?_cons_succ, Mem.cell, Mem.row, cells_own, cells_ro]
  refine SK_alS h1 fun C m2 h2 _ _ => ?_
  have g2 := h2.get 1 rfl
  simp -implicitDefEqProofs (disch := first | assumption | omega | fail) [wkB, retV, stabOk, dC, ev, fillD, pickCells, putAt, bnd, slD, List.getElem?_cons_zero, List.getElem?_cons_succ, Mem.cell, Mem.row, cells_own, cells_ro, g2]
  refine SK_stS h2 0 rfl (o := 0) (vs := [.int .i64 (clampI 1 9 tr), .int .i64 (clampI 1 99 wt)]) (cs' := [.int .i64 (clampI 1 9 tr), .int .i64 (clampI 1 99 wt)]) (by simp [wkB, retV, stabOk, dC, ev, fillD, pickCells, putAt, bnd, slD, List.getElem?_cons_zero, List.getElem?_cons_succ, Mem.cell, Mem.row, cells_own, cells_ro]) (by simp [wkB, retV, stabOk, dC, ev, fillD, pickCells, putAt, bnd, slD, List.getElem?_cons_zero, List.getElem?_cons_succ, Mem.cell, Mem.row, cells_own, cells_ro, clampI]) (by simp) rfl rfl rfl fun m3 h3 _ => ?_
  have g3 := h3.get 0 rfl
  simp -implicitDefEqProofs (disch := first | assumption | omega | fail) [wkB, retV, stabOk, dC, ev, fillD, pickCells, putAt, bnd, slD, List.getElem?_cons_zero, List.getElem?_cons_succ, Mem.cell, Mem.row, cells_own, cells_ro, g3]
  exact hq m3 h3.tl.tl
/-- Blocks as they are handed over. -/
abbrev Bi := UInt8 × Value × List UInt8
def biC (x : Bi) : List Value := [.int .u8 (x.1.toNat : Int), x.2.1]
theorem biC_len (x : Bi) : (biC x).length = 2 := rfl
def biB (x : Bi) : Bk := (x.1, x.2.2)
structure BiOk (m : Mem) (xs : List Bi) : Prop where
  r : ∀ x ∈ xs, RdV (fun i => i < m.next) m 1 x.2.1 (x.2.2.map byteV) x.2.2.length ∧ (x.2.2.length = 128 ∨ x.2.2.length = 1024)
theorem c_sOf {w0 : World} {V : Nat → Prop} {m0 m : Mem} {l : HL} {tr wt : Int} {v : Value} {xs : List Bi} {crc close : Bool} {Q : Value → Mem → Prop} (h : Sep m0 V m l) (hv : RdV (fun i => i < m.next) m 2 v (xs.flatMap biC) xs.length) (hx : BiOk m xs) (hn : xs.length ≤ 1000000000000)
    (hq : ∀ is H M, Sep m0 V M (H ++ l) → Old m M → SnR H is (snOf tr wt (xs.map biB) crc close) → Q (.pointer (some ⟨is, 0, none⟩)) M) :
    AbC Tryz.prog w0 40 [.agg ⟨[.int .i64 tr, .int .i64 wt]⟩, v, .bool crc, .bool close] m Q := by
  refine AbC_fn ok40 (by simp) ?_
  simp -implicitDefEqProofs (disch := first | assumption | omega | fail) [rc40, ro40, wkB, retV, stabOk, dC, ev, fillD, pickCells, putAt, bnd, slD, List.getElem?_cons_zero, List.getElem?_cons_succ, Mem.cell, Mem.row, cells_own, cells_ro]
  refine SK_bxS (Sep.ofOld h.pt) (cs := [.int .i64 tr, .int .i64 wt]) (by simp [wkB, retV, stabOk, dC, ev, fillD, pickCells, putAt, bnd, slD, List.getElem?_cons_zero, List.getElem?_cons_succ, Mem.cell, Mem.row, cells_own, cells_ro]) fun B m1 h1 _ _ => ?_
  have g1 := h1.get 0 rfl
  simp -implicitDefEqProofs (disch := first | assumption | omega | fail) [wkB, retV, stabOk, dC, ev, fillD, pickCells, putAt, bnd, slD, List.getElem?_cons_zero, List.getElem?_cons_succ, Mem.cell, Mem.row, cells_own, cells_ro, g1]
  refine c_fit h1.tl fun m2 h2 => ?_
  obtain ⟨T, hT⟩ : ∃ T, clampI 1 9 tr = T := ⟨_, rfl⟩
  obtain ⟨W, hW⟩ : ∃ W, clampI 1 99 wt = W := ⟨_, rfl⟩
  obtain ⟨s0, hs0⟩ : ∃ s0 : Nat → Sn, s0 = fun j => ⟨T, W, (xs.take j).map biB, close, crc, 0, 0, 0, 0, false, 0⟩ := ⟨_, rfl⟩
  rw [hT, hW]
  simp -implicitDefEqProofs (disch := first | assumption | omega | fail) [wkB, retV, stabOk, dC, ev, fillD, pickCells, putAt, bnd, slD, List.getElem?_cons_zero, List.getElem?_cons_succ, Mem.cell, Mem.row, cells_own, cells_ro]
  refine SK_bxS h2 (cs := snC (s0 0) (.slice none 0 0)) (by simp [wkB, retV, stabOk, dC, ev, fillD, pickCells, putAt, bnd, slD, List.getElem?_cons_zero, List.getElem?_cons_succ, Mem.cell, Mem.row, cells_own, cells_ro, snC, hs0, errV]) fun is m3 h3 _ _ => ?_
  simp -implicitDefEqProofs (disch := first | assumption | omega | fail) [wkB, retV, stabOk, dC, ev, fillD, pickCells, putAt, bnd, slD, List.getElem?_cons_zero, List.getElem?_cons_succ, Mem.cell, Mem.row, cells_own, cells_ro, hv.sl.slen]
  have hbl : ∀ j, j ≤ xs.length → (s0 j).blocks.length = j := fun j hj => by rw [hs0]; simp; omega
  refine LoopW_of (fun k ts m' => ∃ (j : Nat) (ob : Option Nat) (vs : List Nat), j + k = xs.length ∧ Sep m (fun i => i < m.next) m' (snH is ob vs (s0 j)) ∧ vs.length = j ∧ (ob = none → j = 0) ∧
    ts 9 = .pointer (some ⟨is, 0, none⟩) ∧ ts 18 = v ∧ ts 19 = .int .i64 (xs.length : Nat) ∧ ts 20 = .int .i64 (j : Nat)) xs.length ?_ ?_
  · refine ⟨0, none, [], by omega, ?_, rfl, fun _ => rfl, by simp, by simp [frA_at], by simp, by simp⟩
    have e0 : (s0 0).blocks = [] := by rw [hs0]; rfl
    have := (h3.non (.own [] 50)).perm (List.Perm.swap _ _ _)
    unfold snH
    rw [e0]
    simpa [slV, bkC, bkD] using this
  rintro k ts m4 K ⟨j, ob, vs, hj, h4, hvs, hob, t9, t18, t19, t20⟩ hK
  have g4 := h4.get 0 rfl
  rw [hbl j (by omega)] at g4
  simp only [snC] at g4
  by_cases hjl : j < xs.length
  · have hjl' : (j : Int) < (xs.length : Nat) := by omega
    have wj : IntKind.i64.wrap ((j : Int) + 1) = ((j + 1 : Nat) : Int) := by rw [w64 (by omega)]; omega
    have hrow := flat_at biC_len xs (List.getElem?_eq_getElem hjl)
    obtain ⟨i, o, L, hi1, hi2, hi3, hi4, hi5⟩ := (hv.sep h4).sl.cells_at hjl hrow
    obtain ⟨x, hxj⟩ : ∃ x, xs[j] = x := ⟨_, rfl⟩
    obtain ⟨hxr, hxl⟩ := hx.r x (by rw [← hxj]; exact List.getElem_mem hjl)
    have hxg : xs[j]? = some x := by rw [List.getElem?_eq_getElem hjl, hxj]
    rw [hxj] at hi5
    obtain ⟨no, dv, d⟩ := x
    simp only at hxr hxl
    have hov := hxr.oneC'
    have hi5 : (L.drop (o + j * 2)).take 2 = [.int .u8 (no.toNat : Int), dv] := hi5
    simp -implicitDefEqProofs (disch := first | assumption | omega | fail) [rc40_1, rc40_0, wkB, retV, stabOk, dC, ev, fillD, pickCells, putAt, bnd, slD, List.getElem?_cons_zero, List.getElem?_cons_succ, Mem.cell, Mem.row, cells_own, cells_ro, t9, t18, t19, t20, hjl, hjl', hi2, hi3, hi4, hi5]
    refine SK_alS h4 fun xr m5 h5 _ _ => ?_
    simp -implicitDefEqProofs (disch := first | assumption | omega | fail) [wkB, retV, stabOk, dC, ev, fillD, pickCells, putAt, bnd, slD, List.getElem?_cons_zero, List.getElem?_cons_succ, Mem.cell, Mem.row, cells_own, cells_ro]
    refine SK_stS h5 0 rfl (o := 0) (vs := [.int .u8 (no.toNat : Int), dv]) (cs' := [.int .u8 (no.toNat : Int), dv]) (by simp [wkB, retV, stabOk, dC, ev, fillD, pickCells, putAt, bnd, slD, List.getElem?_cons_zero, List.getElem?_cons_succ, Mem.cell, Mem.row, cells_own, cells_ro]) (by simp [wkB, retV, stabOk, dC, ev, fillD, pickCells, putAt, bnd, slD, List.getElem?_cons_zero, List.getElem?_cons_succ, Mem.cell, Mem.row, cells_own, cells_ro]) (by simp) rfl (by simp only [List.all_cons, List.all_nil, hov.2, Bool.and_true]; rfl) rfl fun m6 h6 _ => ?_
    have g60 := h6.get 0 rfl
    have g61 := h6.get 1 rfl
    rw [hbl j (by omega)] at g61
    simp only [snC] at g61
    simp -implicitDefEqProofs (disch := first | assumption | omega | fail) [wkB, retV, stabOk, dC, ev, fillD, pickCells, putAt, bnd, slD, List.getElem?_cons_zero, List.getElem?_cons_succ, Mem.cell, Mem.row, cells_own, cells_ro, t9, g60, g61]
    have hx6 := (hxr.sep h6).sl
    refine SK_nwS h6 (k := d.length) (ys := d.map byteV) (by simp [wkB, retV, stabOk, dC, ev, fillD, pickCells, putAt, bnd, slD, List.getElem?_cons_zero, List.getElem?_cons_succ, Mem.cell, Mem.row, cells_own, cells_ro]) (by simp [wkB, retV, stabOk, dC, ev, fillD, pickCells, putAt, bnd, slD, List.getElem?_cons_zero, List.getElem?_cons_succ, Mem.cell, Mem.row, cells_own, cells_ro]; exact hx6.elems) (by simp [wkB, retV, stabOk, dC, ev, fillD, pickCells, putAt, bnd, slD, List.getElem?_cons_zero, List.getElem?_cons_succ, Mem.cell, Mem.row, cells_own, cells_ro]; exact hx6.lenV) (byteV_oneC _) (by omega) (by unfold maxLen; omega) (by simp) fun od m7 h7 hn7 _ => ?_
    obtain ⟨w, rfl⟩ : ∃ w, od = some w := by
      cases od with
      | none => have := hn7 rfl; omega
      | some w => exact ⟨w, rfl⟩
    have g70 := h7.get 1 rfl
    have g71 := h7.get 2 rfl
    rw [hbl j (by omega)] at g71
    simp only [snC] at g71
    simp -implicitDefEqProofs (disch := first | assumption | omega | fail) [wkB, retV, stabOk, dC, ev, fillD, pickCells, putAt, bnd, slD, List.getElem?_cons_zero, List.getElem?_cons_succ, Mem.cell, Mem.row, cells_own, cells_ro, t9, g70, g71]
    refine SK_bslS h7 (cs := [.int .u8 (no.toNat : Int), .slice (some ⟨w, 0, none⟩) d.length 1]) (by simp [fillD, pickCells, wkB, retV, stabOk, dC, ev, fillD, pickCells, putAt, bnd, slD, List.getElem?_cons_zero, List.getElem?_cons_succ, Mem.cell, Mem.row, cells_own, cells_ro, slV]) rfl fun b8 m8 h8 _ _ => ?_
    have g81 := h8.get 3 rfl
    rw [hbl j (by omega)] at g81
    simp only [snC] at g81
    have hO8 := (h8.slO 0 (k := 1) (sz := 2) rfl rfl (fun e => by cases e)).read
    have hvl : vs.length = (s0 j).blocks.length := by rw [hbl j (by omega)]; exact hvs
    simp -implicitDefEqProofs (disch := first | assumption | omega | fail) [wkB, retV, stabOk, dC, ev, fillD, pickCells, putAt, bnd, slD, List.getElem?_cons_zero, List.getElem?_cons_succ, Mem.cell, Mem.row, cells_own, cells_ro, t9, g81]
    refine SK_apS h8 4 (n := j) (k := 1) (ys := [.int .u8 (no.toNat : Int), .slice (some ⟨w, 0, none⟩) d.length 1]) rfl (by simp [wkB, retV, stabOk, dC, ev, fillD, pickCells, putAt, bnd, slD, List.getElem?_cons_zero, List.getElem?_cons_succ, Mem.cell, Mem.row, cells_own, cells_ro]) (by rw [bkC_len hvl, hbl j (by omega)]) hob (by simp [wkB, retV, stabOk, dC, ev, fillD, pickCells, putAt, bnd, slD, List.getElem?_cons_zero, List.getElem?_cons_succ, Mem.cell, Mem.row, cells_own, cells_ro]; exact hO8.elems) (by simp [wkB, retV, stabOk, dC, ev, fillD, pickCells, putAt, bnd, slD, List.getElem?_cons_zero, List.getElem?_cons_succ, Mem.cell, Mem.row, cells_own, cells_ro]) rfl (by omega) (by unfold maxLen; omega) rfl fun ob9 m9 h9 hn9 _ => ?_
    simp -implicitDefEqProofs (disch := first | assumption | omega | fail) [wkB, retV, stabOk, dC, ev, fillD, pickCells, putAt, bnd, slD, List.getElem?_cons_zero, List.getElem?_cons_succ, Mem.cell, Mem.row, cells_own, cells_ro, t9]
    refine SK_stS h9 3 rfl (o := 2) (vs := [slV ob9 (j + 1) 2]) (cs' := snC (s0 (j + 1)) (slV ob9 (j + 1) 2)) (by simp [wkB, retV, stabOk, dC, ev, fillD, pickCells, putAt, bnd, slD, List.getElem?_cons_zero, List.getElem?_cons_succ, Mem.cell, Mem.row, cells_own, cells_ro]) (by simp [wkB, retV, stabOk, dC, ev, fillD, pickCells, putAt, bnd, slD, List.getElem?_cons_zero, List.getElem?_cons_succ, Mem.cell, Mem.row, cells_own, cells_ro]) (by simp [snC]) rfl (by simp [oneC_slV]) (by rw [hs0]; simp [snC, putAt]) fun m10 h10 _ => ?_
    simp -implicitDefEqProofs (disch := first | assumption | omega | fail) [wkB, retV, stabOk, dC, ev, fillD, pickCells, putAt, bnd, slD, List.getElem?_cons_zero, List.getElem?_cons_succ, Mem.cell, Mem.row, cells_own, cells_ro, t20, wj]
    have hbs : (s0 (j + 1)).blocks = (s0 j).blocks ++ [(no, d)] := by rw [hs0]; simp [List.take_add_one, hxg, biB]
    have h11 := ((h10.tl).del 1).perm (List.perm_append_comm (l₁ := [byH (some w) d]))
    refine hK (k - 1) _ _ (by omega) ⟨j + 1, ob9, vs ++ [w], by omega, ?_, by simp [hvs], fun e => by have := hn9 e; omega, by simp [t9], by simp [t18], by simp [t19], by simp⟩
    unfold snH
    rw [hbl (j + 1) (by omega), hbs, bkC_app w (no, d) hvl, bkD_app w (no, d) hvl]
    exact h11
  · have hjj : j = xs.length := by omega
    subst hjj
    simp -implicitDefEqProofs (disch := first | assumption | omega | fail) [rc40_1, rc40_2, wkB, retV, stabOk, dC, ev, fillD, pickCells, putAt, bnd, slD, List.getElem?_cons_zero, List.getElem?_cons_succ, Mem.cell, Mem.row, cells_own, cells_ro, t9, t19, t20, g4]
    refine SK_stS h4 0 rfl (o := 8) (vs := [.int .i64 W]) (cs' := snC { s0 xs.length with left := W } (slV ob (s0 xs.length).blocks.length 2)) (by simp [wkB, retV, stabOk, dC, ev, fillD, pickCells, putAt, bnd, slD, List.getElem?_cons_zero, List.getElem?_cons_succ, Mem.cell, Mem.row, cells_own, cells_ro]) (by simp [wkB, retV, stabOk, dC, ev, fillD, pickCells, putAt, bnd, slD, List.getElem?_cons_zero, List.getElem?_cons_succ, Mem.cell, Mem.row, cells_own, cells_ro, hs0]) (by simp [snC]) rfl rfl (by simp [snC, putAt]) fun m5 h5 _ => ?_
    simp -implicitDefEqProofs (disch := first | assumption | omega | fail) [wkB, retV, stabOk, dC, ev, fillD, pickCells, putAt, bnd, slD, List.getElem?_cons_zero, List.getElem?_cons_succ, Mem.cell, Mem.row, cells_own, cells_ro, t9]
    refine SK_stS h5 0 rfl (o := 7) (vs := [.int .i64 1]) (cs' := snC { s0 xs.length with left := W, tr := 1 } (slV ob (s0 xs.length).blocks.length 2)) (by simp [wkB, retV, stabOk, dC, ev, fillD, pickCells, putAt, bnd, slD, List.getElem?_cons_zero, List.getElem?_cons_succ, Mem.cell, Mem.row, cells_own, cells_ro]) (by simp [wkB, retV, stabOk, dC, ev, fillD, pickCells, putAt, bnd, slD, List.getElem?_cons_zero, List.getElem?_cons_succ, Mem.cell, Mem.row, cells_own, cells_ro]) (by simp [snC]) rfl rfl (by simp [snC, putAt]) fun m6 h6 _ => ?_
    simp -implicitDefEqProofs (disch := first | assumption | omega | fail) [wkB, retV, stabOk, dC, ev, fillD, pickCells, putAt, bnd, slD, List.getElem?_cons_zero, List.getElem?_cons_succ, Mem.cell, Mem.row, cells_own, cells_ro, t9]
    have e1 : ({ s0 xs.length with left := W, tr := 1 } : Sn) = snOf tr wt (xs.map biB) crc close := by rw [hs0, ← hT, ← hW]; simp [snOf]
    have h6 : Sep m (fun i => i < m.next) m6 (snH is ob vs { s0 xs.length with left := W, tr := 1 }) := h6
    rw [e1] at h6
    refine hq is _ m6 (h.addO h6) h6.toOld ⟨⟨ob, vs, rfl, by simp [snOf, hvs], fun e => by have := hob e; simp [snOf, this]⟩, snOf_w fun y hy => ?_⟩
    obtain ⟨x, hx1, rfl⟩ := List.mem_map.1 hy
    exact (hx.r x hx1).2
end Go.Proofs.YthmhappejchilaaGreatDoor.Ab

set_option linter.unusedVariables false
set_option linter.unusedSimpArgs false
namespace Go.Proofs.YthmhappejchilaaGreatDoor.Ab
open Go Go.RowKit
set_option maxHeartbeats 4000000
set_option maxRecDepth 100000
def nS (large : Bool) (n : Nat) : Nat := if large = true ∧ 1024 ≤ n then 1024 else 128
theorem nS_or (large : Bool) (n : Nat) : nS large n = 128 ∨ nS large n = 1024 := by unfold nS; split <;> simp
/-- The parts of data. -/
def splitF (large : Bool) : Nat → List UInt8 → List (List UInt8)
  | 0, _ => []
  | _ + 1, [] => []
  | k + 1, c :: l => ((c :: l).take (nS large (c :: l).length) ++ List.replicate (nS large (c :: l).length - (c :: l).length) 26) :: splitF large k ((c :: l).drop (nS large (c :: l).length))
def splitL (large : Bool) (d : List UInt8) : List (List UInt8) := splitF large d.length d
theorem splitF_nil (large : Bool) (k : Nat) : splitF large k [] = [] := by cases k <;> rfl
theorem splitF_len (large : Bool) : ∀ (k : Nat) (d : List UInt8), ∀ p ∈ splitF large k d, p.length = 128 ∨ p.length = 1024
  | 0, _, p, h => by simp [splitF] at h
  | _ + 1, [], p, h => by simp [splitF] at h
  | k + 1, c :: l, p, h => by
    simp only [splitF, List.mem_cons] at h
    rcases h with rfl | h
    · have := nS_or large (c :: l).length
      rw [List.length_append, List.length_take, List.length_replicate]
      omega
    · exact splitF_len large k _ p h
theorem splitF_num (large : Bool) : ∀ (k : Nat) (d : List UInt8), (splitF large k d).length ≤ d.length / 128 + 1
  | 0, _ => by simp [splitF]
  | _ + 1, [] => by simp [splitF]
  | k + 1, c :: l => by
    have ih := splitF_num large k ((c :: l).drop (nS large (c :: l).length))
    have := nS_or large (c :: l).length
    rw [List.length_drop] at ih
    by_cases he : (c :: l).length ≤ nS large (c :: l).length
    · have e : (c :: l).drop (nS large (c :: l).length) = [] := List.drop_of_length_le he
      simp only [splitF]
      rw [e, splitF_nil]
      simp
    · simp only [splitF, List.length_cons] at ih ⊢
      simp only [List.length_cons] at this he
      omega
theorem splitF_join (large : Bool) : ∀ (k : Nat) (d : List UInt8), d.length ≤ k → d.length ≤ (splitF large k d).flatten.length ∧ (splitF large k d).flatten.take d.length = d
  | 0, d, h => by
    have : d = [] := List.length_eq_zero_iff.1 (by omega)
    subst this
    simp [splitF]
  | _ + 1, [], h => by simp [splitF]
  | k + 1, c :: l, h => by
    have hn := nS_or large (c :: l).length
    obtain ⟨n, hnn⟩ : ∃ n, nS large (c :: l).length = n := ⟨_, rfl⟩
    obtain ⟨d, hd⟩ : ∃ d, c :: l = d := ⟨_, rfl⟩
    have hd1 : 1 ≤ d.length := by rw [← hd]; simp
    simp only [splitF]
    rw [hnn] at hn ⊢
    rw [hd] at h hnn ⊢
    have ih := splitF_join large k (d.drop n) (by rw [List.length_drop]; omega)
    rw [List.flatten_cons]
    rw [List.length_drop] at ih
    refine ⟨by simp only [List.length_append, List.length_take, List.length_replicate]; omega, ?_⟩
    by_cases hle : d.length ≤ n
    · rw [List.append_assoc, List.take_append_of_le_length (by rw [List.length_take]; omega), List.take_take, List.take_of_length_le (by omega)]
    · have e0 : n - d.length = 0 := by omega
      rw [e0, List.replicate_zero, List.append_nil]
      have e1 : d.length = (d.take n).length + (d.length - n) := by rw [List.length_take]; omega
      conv => lhs; rw [e1]
      rw [List.take_length_add_append, ih.2, List.take_append_drop]
/-- Parts: their cells, and their bytes. -/
def paC : List Nat → List (List UInt8) → List Value
  | v :: vs, p :: ps => .slice (some ⟨v, 0, none⟩) p.length 1 :: paC vs ps
  | _, _ => []
def paD : List Nat → List (List UInt8) → HL
  | v :: vs, p :: ps => byH (some v) p :: paD vs ps
  | _, _ => []
theorem paC_len : ∀ {vs : List Nat} {ps : List (List UInt8)}, vs.length = ps.length → (paC vs ps).length = ps.length * 1
  | [], [], _ => rfl
  | v :: vs, b :: bs, h => by
    have := paC_len (vs := vs) (ps := bs) (by simpa using h)
    simp only [paC, List.length_cons, this]
    omega
theorem paC_app : ∀ {vs : List Nat} {ps : List (List UInt8)} (v : Nat) (p : List UInt8), vs.length = ps.length → paC (vs ++ [v]) (ps ++ [p]) = paC vs ps ++ [.slice (some ⟨v, 0, none⟩) p.length 1]
  | [], [], v, b, _ => rfl
  | v0 :: vs, b0 :: bs, v, b, h => by
    simp only [List.cons_append, paC]
    rw [paC_app v b (by simpa using h)]
theorem paD_app : ∀ {vs : List Nat} {ps : List (List UInt8)} (v : Nat) (p : List UInt8), vs.length = ps.length → paD (vs ++ [v]) (ps ++ [p]) = paD vs ps ++ [byH (some v) p]
  | [], [], v, b, _ => rfl
  | v0 :: vs, b0 :: bs, v, b, h => by
    simp only [List.cons_append, paD]
    rw [paD_app v b (by simpa using h)]
end Go.Proofs.YthmhappejchilaaGreatDoor.Ab

set_option linter.unusedVariables false
set_option linter.unusedSimpArgs false
namespace Go.Proofs.YthmhappejchilaaGreatDoor.Ab
open Go Go.RowKit
set_option maxHeartbeats 4000000
set_option maxRecDepth 100000
theorem c_bSplit {w0 : World} {V : Nat → Prop} {m0 m : Mem} {l : HL} {v : Value} {D : List UInt8} {large : Bool} {Q : Value → Mem → Prop} (h : Sep m0 V m l) (hv : RdV (fun i => i < m.next) m 1 v (D.map byteV) D.length) (hD : D.length ≤ 1000000000000)
    (hq : ∀ oo vs M, Sep m0 V M (((oo, .own (paC vs (splitL large D)) 24) :: paD vs (splitL large D)) ++ l) → Old m M → vs.length = (splitL large D).length → (oo = none → (splitL large D).length = 0) → Q (slV oo (splitL large D).length 1) M) :
    AbC Tryz.prog w0 22 [v, .bool large] m Q := by
  refine AbC_fn ok22 (by simp) ?_
  simp -implicitDefEqProofs (disch := first | assumption | omega | fail) [rc22, ro22, wkB, retV, stabOk, dC, ev, fillD, pickCells, putAt, bnd, slD, List.getElem?_cons_zero, List.getElem?_cons_succ, Mem.cell, Mem.row, cells_own, cells_ro]
  refine LoopW_of (fun k ts m' => ∃ (ps : List (List UInt8)) (vs : List Nat) (rest : List UInt8) (fuel : Nat) (vr : Value) (oo : Option Nat), rest.length = k ∧ ps.length + rest.length ≤ D.length ∧ Sep m (fun i => i < m.next) m' ((oo, .own (paC vs ps) 24) :: paD vs ps) ∧ vs.length = ps.length ∧ (oo = none → ps.length = 0) ∧
      RdV (fun i => i < m.next) m 1 vr (rest.map byteV) rest.length ∧ rest.length ≤ fuel ∧ splitL large D = ps ++ splitF large fuel rest ∧ ts 0 = vr ∧ ts 1 = .bool large ∧ ts 5 = slV oo ps.length 1) D.length ?_ ?_
  · exact ⟨[], [], D, D.length, v, none, rfl, by simp, (Sep.ofOld h.pt).non _, rfl, fun _ => rfl, hv, Nat.le_refl _, rfl, by simp [frA_at], by simp [frA_at], by simp [slV]⟩
  rintro k ts m1 K ⟨ps, vs, rest, fuel, vr, oo, rfl, hsum, h1, hvs, hoo, hr, hfu, hsp, t0, t1, t5⟩ hK
  have hsl := (hr.sep h1).sl.slen
  by_cases h0 : 0 < rest.length
  · have h0' : (0 : Int) < (rest.length : Nat) := by omega
    obtain ⟨f1, rfl⟩ : ∃ f1, fuel = f1 + 1 := ⟨fuel - 1, by omega⟩
    have hn := nS_or large rest.length
    obtain ⟨n, hnn⟩ : ∃ n, nS large rest.length = n := ⟨_, rfl⟩
    rw [hnn] at hn
    have hsp2 : splitF large (f1 + 1) rest = (rest.take n ++ List.replicate (n - rest.length) 26) :: splitF large f1 (rest.drop n) := by
      cases rest with
      | nil => simp at h0
      | cons c l => simp only [splitF]; rw [hnn]
    have main : ∀ (fr : Fr), fr 0 = vr → fr 1 = .bool large → fr 5 = slV oo ps.length 1 → fr 6 = .int .i64 (n : Int) → ∀ R : AQ, (∀ fr' M', (∃ (ps' : List (List UInt8)) (vs' : List Nat) (rest' : List UInt8) (fuel' : Nat) (vr' : Value) (oo' : Option Nat), rest'.length < rest.length ∧ ps'.length + rest'.length ≤ D.length ∧ Sep m (fun i => i < m.next) M' ((oo', .own (paC vs' ps') 24) :: paD vs' ps') ∧ vs'.length = ps'.length ∧ (oo' = none → ps'.length = 0) ∧
      RdV (fun i => i < m.next) m 1 vr' (rest'.map byteV) rest'.length ∧ rest'.length ≤ fuel' ∧ splitL large D = ps' ++ splitF large fuel' rest' ∧ fr' 0 = vr' ∧ fr' 1 = .bool large ∧ fr' 5 = slV oo' ps'.length 1) → R .normal fr' M') → AbW Tryz.prog w0 rc22_2 R fr m1 := by
      intro fr t0 t1 t5 t6 R hR
      obtain ⟨q, hqn⟩ : ∃ q, min n rest.length = q := ⟨_, rfl⟩
      have hql : q ≤ rest.length := by omega
      have hq1 : 1 ≤ q := by omega
      have hmn : (if rest.length < n then ((rest.length : Nat) : Int) else (n : Int)) = (q : Int) := by split <;> omega
      have hrs := (hr.sep h1).sl
      obtain ⟨v2, hv2, hr2, hb2⟩ := hrs.upto (k := q) hql
      obtain ⟨v3, hv3, hr3, hb3⟩ := hrs.behind (k := q) hql
      rw [Nat.mul_one, ← List.map_take] at hr2
      rw [Nat.mul_one, ← List.map_drop] at hr3
      have hr3m : RdV (fun i => i < m.next) m 1 v3 ((rest.drop q).map byteV) (rest.drop q).length := by
        obtain ⟨v3', hv3', hr3', hb3'⟩ := hr.sl.behind (k := q) hql
        rw [hv3] at hv3'
        cases hv3'
        rw [Nat.mul_one, ← List.map_drop] at hr3'
        rw [List.length_drop]
        exact ⟨hr3', fun i hi => hr.bl i (hb3' i hi)⟩
      simp -implicitDefEqProofs (disch := first | assumption | omega | fail) [rc22_2, wkB, retV, stabOk, dC, ev, fillD, pickCells, putAt, bnd, slD, List.getElem?_cons_zero, List.getElem?_cons_succ, Mem.cell, Mem.row, cells_own, cells_ro, t0, t1, t5, t6, hsl, hmn, hv2]
      have htl : (rest.take q).length = q := by rw [List.length_take]; omega
      obtain ⟨P0, hP0⟩ : ∃ P0, rest.take q = P0 := ⟨_, rfl⟩
      rw [hP0] at hr2 htl
      refine SK_nwS h1 (k := q) (ys := P0.map byteV) (by simp [wkB, retV, stabOk, dC, ev, fillD, pickCells, putAt, bnd, slD, List.getElem?_cons_zero, List.getElem?_cons_succ, Mem.cell, Mem.row, cells_own, cells_ro]) (by simp [wkB, retV, stabOk, dC, ev, fillD, pickCells, putAt, bnd, slD, List.getElem?_cons_zero, List.getElem?_cons_succ, Mem.cell, Mem.row, cells_own, cells_ro]; exact hr2.elems) (by simp [wkB, retV, stabOk, dC, ev, fillD, pickCells, putAt, bnd, slD, List.getElem?_cons_zero, List.getElem?_cons_succ, Mem.cell, Mem.row, cells_own, cells_ro]; exact hr2.lenV) (byteV_oneC _) (by omega) (by unfold maxLen; omega) (by simp [htl]) fun po m2 h2 hn2 _ => ?_
      obtain ⟨p0, rfl⟩ : ∃ p0, po = some p0 := by
        cases po with
        | none => have := hn2 rfl; omega
        | some w => exact ⟨w, rfl⟩
      have hs2 := (h2.slO 0 (k := q) (sz := 1) rfl (by simp [htl]) (fun e => by cases e)).read.slen
      simp -implicitDefEqProofs (disch := first | assumption | omega | fail) [wkB, retV, stabOk, dC, ev, fillD, pickCells, putAt, bnd, slD, List.getElem?_cons_zero, List.getElem?_cons_succ, Mem.cell, Mem.row, cells_own, cells_ro, t0, hs2, hv3]
      refine LoopW_of (fun k2 ts2 m' => ∃ (j : Nat) (pi : Nat), q + j + k2 = n ∧ Sep m (fun i => i < m.next) m' (byH (some pi) (P0 ++ List.replicate j 26) :: (oo, .own (paC vs ps) 24) :: paD vs ps) ∧ ts2 0 = v3 ∧ ts2 1 = .bool large ∧ ts2 5 = slV oo ps.length 1 ∧ ts2 6 = .int .i64 (n : Int) ∧ ts2 7 = slV (some pi) (q + j) 1) (n - q) ?_ ?_
      · exact ⟨0, p0, by omega, by simpa [byH] using h2, by simp, by simp [t1], by simp [t5], by simp [t6], by simp⟩
      rintro k2 ts2 m3 K2 ⟨j, pi, hj, h3, u0, u1, u5, u6, u7⟩ hK2
      have hpl : (P0 ++ List.replicate j (26 : UInt8)).length = q + j := by simp [htl]
      have hO3 := (h3.slO 0 (k := q + j) (sz := 1) rfl (by simp [htl]) (fun e => by cases e)).read
      have hs3 := hO3.slen
      by_cases hjn : q + j < n
      · have hjn' : ((q + j : Nat) : Int) < (n : Int) := by omega
        obtain ⟨J, hJ⟩ : ∃ J, q + j = J := ⟨_, rfl⟩
        rw [hJ] at hjn' hs3 u7 hpl hjn
        simp -implicitDefEqProofs (disch := first | assumption | omega | fail) [rc22_1, rc22_0, wkB, retV, stabOk, dC, ev, fillD, pickCells, putAt, bnd, slD, List.getElem?_cons_zero, List.getElem?_cons_succ, Mem.cell, Mem.row, cells_own, cells_ro, u6, u7, hs3, hjn, hjn']
        refine SK_bslS h3 (cs := ([26] : List UInt8).map byteV) (by simp [fillD, pickCells, wkB, retV, stabOk, dC, ev, fillD, pickCells, putAt, bnd, slD, List.getElem?_cons_zero, List.getElem?_cons_succ, Mem.cell, Mem.row, cells_own, cells_ro, byteV]) rfl fun b4 m4 h4 _ _ => ?_
        have hO4 := (h4.slO 0 (k := 1) (sz := 1) rfl rfl (fun e => by cases e)).read
        simp -implicitDefEqProofs (disch := first | assumption | omega | fail) [wkB, retV, stabOk, dC, ev, fillD, pickCells, putAt, bnd, slD, List.getElem?_cons_zero, List.getElem?_cons_succ, Mem.cell, Mem.row, cells_own, cells_ro]
        refine SK_apS h4 1 (n := J) (k := 1) (ys := ([26] : List UInt8).map byteV) rfl (by simp [wkB, retV, stabOk, dC, ev, fillD, pickCells, putAt, bnd, slD, List.getElem?_cons_zero, List.getElem?_cons_succ, Mem.cell, Mem.row, cells_own, cells_ro]) (by rw [List.length_map, hpl, Nat.mul_one]) (fun e => by cases e) (by simp [wkB, retV, stabOk, dC, ev, fillD, pickCells, putAt, bnd, slD, List.getElem?_cons_zero, List.getElem?_cons_succ, Mem.cell, Mem.row, cells_own, cells_ro]; exact hO4.elems) (by simp [wkB, retV, stabOk, dC, ev, fillD, pickCells, putAt, bnd, slD, List.getElem?_cons_zero, List.getElem?_cons_succ, Mem.cell, Mem.row, cells_own, cells_ro]) (byteV_oneC _) (by omega) (by unfold maxLen; omega) rfl fun pj m5 h5 hn5 _ => ?_
        obtain ⟨pj, rfl⟩ : ∃ i, pj = some i := by
          cases pj with
          | none => have := hn5 rfl; omega
          | some w => exact ⟨w, rfl⟩
        have e6 : (P0 ++ List.replicate j (26 : UInt8)).map byteV ++ ([26] : List UInt8).map byteV = (P0 ++ List.replicate (j + 1) 26).map byteV := by rw [List.replicate_succ']; simp
        rw [e6] at h5
        simp -implicitDefEqProofs (disch := first | assumption | omega | fail) [wkB, retV, stabOk, dC, ev, fillD, pickCells, putAt, bnd, slD, List.getElem?_cons_zero, List.getElem?_cons_succ, Mem.cell, Mem.row, cells_own, cells_ro]
        exact hK2 (k2 - 1) _ _ (by omega) ⟨j + 1, pj, by omega, h5.tl, by simp [u0], by simp [u1], by simp [u5], by simp [u6], by rw [show q + (j + 1) = J + 1 by omega]; simp⟩
      · have hjn2 : q + j = n := by omega
        have hjn' : ¬ ((q + j : Nat) : Int) < (n : Int) := by omega
        have hj2 : j = n - rest.length := by omega
        have hpart : P0 ++ List.replicate j (26 : UInt8) = rest.take n ++ List.replicate (n - rest.length) 26 := by
          rw [hj2, ← hP0]
          congr 1
          rw [← hqn]
          rcases Nat.le_total n rest.length with h | h
          · rw [Nat.min_eq_left h]
          · rw [Nat.min_eq_right h, List.take_of_length_le (Nat.le_refl _), List.take_of_length_le h]
        have hdrop : rest.drop q = rest.drop n := by
          rw [← hqn]
          rcases Nat.le_total n rest.length with h | h
          · rw [Nat.min_eq_left h]
          · rw [Nat.min_eq_right h, List.drop_of_length_le (Nat.le_refl _), List.drop_of_length_le h]
        rw [hjn2] at hs3 u7 hpl
        rw [hpart] at h3 hpl
        rw [hdrop] at hr3m
        generalize rest.take n ++ List.replicate (n - rest.length) (26 : UInt8) = P at *
        simp -implicitDefEqProofs (disch := first | assumption | omega | fail) [rc22_1, wkB, retV, stabOk, dC, ev, fillD, pickCells, putAt, bnd, slD, List.getElem?_cons_zero, List.getElem?_cons_succ, Mem.cell, Mem.row, cells_own, cells_ro, u5, u6, u7, hs3]
        refine SK_bslS h3 (cs := [.slice (some ⟨pi, 0, none⟩) n 1]) (by simp [fillD, pickCells, wkB, retV, stabOk, dC, ev, fillD, pickCells, putAt, bnd, slD, List.getElem?_cons_zero, List.getElem?_cons_succ, Mem.cell, Mem.row, cells_own, cells_ro, u7, slV]) rfl fun b4 m4 h4 _ _ => ?_
        have hO4 := (h4.slO 0 (k := 1) (sz := 1) rfl rfl (fun e => by cases e)).read
        simp -implicitDefEqProofs (disch := first | assumption | omega | fail) [wkB, retV, stabOk, dC, ev, fillD, pickCells, putAt, bnd, slD, List.getElem?_cons_zero, List.getElem?_cons_succ, Mem.cell, Mem.row, cells_own, cells_ro, u5]
        refine SK_apS h4 2 (n := ps.length) (k := 1) (ys := [.slice (some ⟨pi, 0, none⟩) n 1]) rfl (by simp [wkB, retV, stabOk, dC, ev, fillD, pickCells, putAt, bnd, slD, List.getElem?_cons_zero, List.getElem?_cons_succ, Mem.cell, Mem.row, cells_own, cells_ro]) (paC_len hvs) hoo (by simp [wkB, retV, stabOk, dC, ev, fillD, pickCells, putAt, bnd, slD, List.getElem?_cons_zero, List.getElem?_cons_succ, Mem.cell, Mem.row, cells_own, cells_ro]; exact hO4.elems) (by simp [wkB, retV, stabOk, dC, ev, fillD, pickCells, putAt, bnd, slD, List.getElem?_cons_zero, List.getElem?_cons_succ, Mem.cell, Mem.row, cells_own, cells_ro]) rfl (by omega) (by unfold maxLen; omega) rfl fun o5 m5 h5 hn5 _ => ?_
        simp -implicitDefEqProofs (disch := first | assumption | omega | fail) [wkB, retV, stabOk, dC, ev, fillD, pickCells, putAt, bnd, slD, List.getElem?_cons_zero, List.getElem?_cons_succ, Mem.cell, Mem.row, cells_own, cells_ro]
        have h6 := (h5.tl).perm (List.perm_append_comm (l₁ := [byH (some pi) P]))
        refine hR _ m5 ⟨ps ++ [P], vs ++ [pi], rest.drop n, f1, v3, o5, by rw [List.length_drop]; omega, by simp only [List.length_append, List.length_drop, List.length_singleton]; omega, ?_, by simp [hvs], fun e => by have := hn5 e; omega, hr3m, by rw [List.length_drop]; omega, by rw [hsp, hsp2]; simp, by simp [u0], by simp [u1], by simp⟩
        rw [paC_app pi P hvs, paD_app pi P hvs, hpl]
        exact h6
    cases large with
    | false =>
      have hn8 : n = 128 := by rw [← hnn]; unfold nS; rw [if_neg (fun h => by cases h.1)]
      subst hn8
      simp -implicitDefEqProofs (disch := first | assumption | omega | fail) [rc22_4, rc22_3, wkB, retV, stabOk, dC, ev, fillD, pickCells, putAt, bnd, slD, List.getElem?_cons_zero, List.getElem?_cons_succ, Mem.cell, Mem.row, cells_own, cells_ro, t0, t1, hsl, h0, h0']
      refine main _ (by simp [t0]) (by simp [t1]) (by simp [t5]) (by simp) _ fun fr' M' hE => ?_
      obtain ⟨ps', vs', rest', fuel', vr', oo', e1, e2⟩ := hE
      simp -implicitDefEqProofs (disch := first | assumption | omega | fail) [wkB, retV, stabOk, dC, ev, fillD, pickCells, putAt, bnd, slD, List.getElem?_cons_zero, List.getElem?_cons_succ, Mem.cell, Mem.row, cells_own, cells_ro]
      exact hK rest'.length _ _ e1 ⟨ps', vs', rest', fuel', vr', oo', rfl, e2⟩
    | true =>
      by_cases hb : 1024 ≤ rest.length
      · have hb' : (1024 : Int) ≤ (rest.length : Nat) := by omega
        have hn8 : n = 1024 := by rw [← hnn]; unfold nS; rw [if_pos ⟨rfl, hb⟩]
        subst hn8
        simp -implicitDefEqProofs (disch := first | assumption | omega | fail) [rc22_4, rc22_3, wkB, retV, stabOk, dC, ev, fillD, pickCells, putAt, bnd, slD, List.getElem?_cons_zero, List.getElem?_cons_succ, Mem.cell, Mem.row, cells_own, cells_ro, t0, t1, hsl, h0, h0', hb, hb']
        refine main _ (by simp [t0]) (by simp [t1]) (by simp [t5]) (by simp) _ fun fr' M' hE => ?_
        obtain ⟨ps', vs', rest', fuel', vr', oo', e1, e2⟩ := hE
        simp -implicitDefEqProofs (disch := first | assumption | omega | fail) [wkB, retV, stabOk, dC, ev, fillD, pickCells, putAt, bnd, slD, List.getElem?_cons_zero, List.getElem?_cons_succ, Mem.cell, Mem.row, cells_own, cells_ro]
        exact hK rest'.length _ _ e1 ⟨ps', vs', rest', fuel', vr', oo', rfl, e2⟩
      · have hb' : ¬ (1024 : Int) ≤ (rest.length : Nat) := by omega
        have hn8 : n = 128 := by rw [← hnn]; unfold nS; rw [if_neg (fun h => hb h.2)]
        subst hn8
        simp -implicitDefEqProofs (disch := first | assumption | omega | fail) [rc22_4, rc22_3, wkB, retV, stabOk, dC, ev, fillD, pickCells, putAt, bnd, slD, List.getElem?_cons_zero, List.getElem?_cons_succ, Mem.cell, Mem.row, cells_own, cells_ro, t0, t1, hsl, h0, h0', hb, hb']
        refine main _ (by simp [t0]) (by simp [t1]) (by simp [t5]) (by simp) _ fun fr' M' hE => ?_
        obtain ⟨ps', vs', rest', fuel', vr', oo', e1, e2⟩ := hE
        simp -implicitDefEqProofs (disch := first | assumption | omega | fail) [wkB, retV, stabOk, dC, ev, fillD, pickCells, putAt, bnd, slD, List.getElem?_cons_zero, List.getElem?_cons_succ, Mem.cell, Mem.row, cells_own, cells_ro]
        exact hK rest'.length _ _ e1 ⟨ps', vs', rest', fuel', vr', oo', rfl, e2⟩
  · have hr0 : rest = [] := List.length_eq_zero_iff.1 (by omega)
    subst hr0
    rw [splitF_nil, List.append_nil] at hsp
    have hsl0 : slen vr = some (.int .i64 0) := hsl
    simp -implicitDefEqProofs (disch := first | assumption | omega | fail) [rc22_4, rc22_5, wkB, retV, stabOk, dC, ev, fillD, pickCells, putAt, bnd, slD, List.getElem?_cons_zero, List.getElem?_cons_succ, Mem.cell, Mem.row, cells_own, cells_ro, t0, t5, hsl0]
    rw [hsp] at hq
    exact hq oo vs m1 (h.addO h1) h1.toOld hvs hoo
end Go.Proofs.YthmhappejchilaaGreatDoor.Ab

set_option linter.unusedVariables false
set_option linter.unusedSimpArgs false
namespace Go.Proofs.YthmhappejchilaaGreatDoor.Ab
open Go Go.RowKit
set_option maxHeartbeats 4000000
set_option maxRecDepth 100000
def numL (ps : List (List UInt8)) : List Bk := ps.mapIdx fun k p => (UInt8.ofNat (k + 1), p)
theorem numL_app (ps : List (List UInt8)) (p : List UInt8) : numL (ps ++ [p]) = numL ps ++ [(UInt8.ofNat (ps.length + 1), p)] := by unfold numL; rw [List.mapIdx_concat]
theorem numL_len (ps : List (List UInt8)) : (numL ps).length = ps.length := by simp [numL]
theorem numL_at {ps : List (List UInt8)} {k : Nat} {x : Bk} (h : (numL ps)[k]? = some x) : x.1 = UInt8.ofNat (k + 1) := by
  unfold numL at h
  rw [List.getElem?_mapIdx] at h
  cases hp : ps[k]? with
  | none => rw [hp] at h; cases h
  | some p => rw [hp] at h; cases h; rfl
theorem numL_snd (ps : List (List UInt8)) : (numL ps).map (·.2) = ps := by
  unfold numL
  apply List.ext_getElem?
  intro i
  rw [List.getElem?_map, List.getElem?_mapIdx]
  cases ps[i]? <;> rfl
theorem u8_no (j : Nat) : IntKind.u8.wrap ((j + 1 : Nat) : Int) = ((UInt8.ofNat (j + 1)).toNat : Int) := by
  rw [IntKind.wrap_u8, UInt8.toNat_ofNat']; omega
theorem c_bNumber {w0 : World} {V : Nat → Prop} {m0 m : Mem} {l : HL} {v : Value} {xs : List (Value × List UInt8)} {Q : Value → Mem → Prop} (h : Sep m0 V m l) (hv : RdV (fun i => i < m.next) m 1 v (xs.flatMap fun x => [x.1]) xs.length) (hx : ∀ x ∈ xs, RdV (fun i => i < m.next) m 1 x.1 (x.2.map byteV) x.2.length ∧ 1 ≤ x.2.length ∧ x.2.length ≤ 1024) (hn : xs.length ≤ 1000000000000)
    (hq : ∀ ob vs M, Sep m0 V M (((ob, .own (bkC vs (numL (xs.map (·.2)))) 50) :: bkD vs (numL (xs.map (·.2)))) ++ l) → Old m M → vs.length = xs.length → (ob = none → xs.length = 0) → Q (slV ob xs.length 2) M) :
    AbC Tryz.prog w0 21 [v] m Q := by
  refine AbC_fn ok21 (by simp) ?_
  simp -implicitDefEqProofs (disch := first | assumption | omega | fail) [rc21, ro21, wkB, retV, stabOk, dC, ev, fillD, pickCells, putAt, bnd, slD, List.getElem?_cons_zero, List.getElem?_cons_succ, Mem.cell, Mem.row, cells_own, cells_ro, hv.sl.slen]
  have hbl : ∀ j, j ≤ xs.length → (numL ((xs.take j).map (·.2))).length = j := fun j hj => by rw [numL_len]; simp; omega
  refine LoopW_of (fun k ts m' => ∃ (j : Nat) (ob : Option Nat) (vs : List Nat), j + k = xs.length ∧ Sep m (fun i => i < m.next) m' ((ob, .own (bkC vs (numL ((xs.take j).map (·.2)))) 50) :: bkD vs (numL ((xs.take j).map (·.2)))) ∧ vs.length = j ∧ (ob = none → j = 0) ∧
    ts 3 = slV ob j 2 ∧ ts 6 = v ∧ ts 7 = .int .i64 (xs.length : Nat) ∧ ts 8 = .int .i64 (j : Nat)) xs.length ?_ ?_
  · exact ⟨0, none, [], by omega, (Sep.ofOld h.pt).non _, rfl, fun _ => rfl, by simp [slV], by simp [frA_at], by simp, by simp⟩
  rintro k ts m4 K ⟨j, ob, vs, hj, h4, hvs, hob, t3, t6, t7, t8⟩ hK
  by_cases hjl : j < xs.length
  · have hjl' : (j : Int) < (xs.length : Nat) := by omega
    have wj : IntKind.i64.wrap ((j : Int) + 1) = ((j + 1 : Nat) : Int) := by rw [w64 (by omega)]; omega
    have hno := u8_no j
    have hrow := flat_at (f := fun x : Value × List UInt8 => [x.1]) (fun _ => rfl) xs (List.getElem?_eq_getElem hjl)
    obtain ⟨i, o, L, hi1, hi2, hi3, hi4, hi5⟩ := (hv.sep h4).sl.cells_at hjl hrow
    obtain ⟨x, hxj⟩ : ∃ x, xs[j] = x := ⟨_, rfl⟩
    obtain ⟨hxr, hx1, hx2⟩ := hx x (by rw [← hxj]; exact List.getElem_mem hjl)
    have hxg : xs[j]? = some x := by rw [List.getElem?_eq_getElem hjl, hxj]
    rw [hxj] at hi5
    obtain ⟨dv, d⟩ := x
    simp only at hxr hx1 hx2
    have hg : L[o + j * 1]? = some dv := by
      have := congrArg (fun q : List Value => q[0]?) hi5
      simpa [List.getElem?_take, List.getElem?_drop] using this
    rw [Nat.mul_one] at hg hi2
    have hx6 := (hxr.sep h4).sl
    have htk : (xs.take (j + 1)).map (·.2) = (xs.take j).map (·.2) ++ [d] := by rw [List.take_add_one, hxg]; simp
    have hnl : numL ((xs.take (j + 1)).map (·.2)) = numL ((xs.take j).map (·.2)) ++ [(UInt8.ofNat (j + 1), d)] := by
      rw [htk, numL_app]
      have : ((xs.take j).map (·.2)).length = j := by simp; omega
      rw [this]
    have hvl : vs.length = (numL ((xs.take j).map (·.2))).length := by rw [hbl j (by omega)]; exact hvs
    have hcl : (bkC vs (numL ((xs.take j).map (·.2)))).length = j * 2 := by rw [bkC_len hvl, hbl j (by omega)]
    obtain ⟨J, hJ⟩ : ∃ J, j + 1 = J := ⟨_, rfl⟩
    rw [hJ] at wj hno hnl
    simp -implicitDefEqProofs (disch := first | assumption | omega | fail) [rc21_1, rc21_0, wkB, retV, stabOk, dC, ev, fillD, pickCells, putAt, bnd, slD, List.getElem?_cons_zero, List.getElem?_cons_succ, Mem.cell, Mem.row, cells_own, cells_ro, t3, t6, t7, t8, hjl, hjl', hi2, hi3, hg, getL1 hg, wj, hno]
    refine SK_nwS h4 (k := d.length) (ys := d.map byteV) (by simp [wkB, retV, stabOk, dC, ev, fillD, pickCells, putAt, bnd, slD, List.getElem?_cons_zero, List.getElem?_cons_succ, Mem.cell, Mem.row, cells_own, cells_ro]) (by simp [wkB, retV, stabOk, dC, ev, fillD, pickCells, putAt, bnd, slD, List.getElem?_cons_zero, List.getElem?_cons_succ, Mem.cell, Mem.row, cells_own, cells_ro]; exact hx6.elems) (by simp [wkB, retV, stabOk, dC, ev, fillD, pickCells, putAt, bnd, slD, List.getElem?_cons_zero, List.getElem?_cons_succ, Mem.cell, Mem.row, cells_own, cells_ro]; exact hx6.lenV) (byteV_oneC _) (by omega) (by unfold maxLen; omega) (by simp) fun od m7 h7 hn7 _ => ?_
    obtain ⟨w, rfl⟩ : ∃ w, od = some w := by
      cases od with
      | none => have := hn7 rfl; omega
      | some w => exact ⟨w, rfl⟩
    simp -implicitDefEqProofs (disch := first | assumption | omega | fail) [wkB, retV, stabOk, dC, ev, fillD, pickCells, putAt, bnd, slD, List.getElem?_cons_zero, List.getElem?_cons_succ, Mem.cell, Mem.row, cells_own, cells_ro, t3]
    refine SK_bslS h7 (cs := [.int .u8 ((UInt8.ofNat J).toNat : Int), .slice (some ⟨w, 0, none⟩) d.length 1]) (by simp [fillD, pickCells, wkB, retV, stabOk, dC, ev, fillD, pickCells, putAt, bnd, slD, List.getElem?_cons_zero, List.getElem?_cons_succ, Mem.cell, Mem.row, cells_own, cells_ro, slV]) rfl fun b8 m8 h8 _ _ => ?_
    have hO8 := (h8.slO 0 (k := 1) (sz := 2) rfl rfl (fun e => by cases e)).read
    simp -implicitDefEqProofs (disch := first | assumption | omega | fail) [wkB, retV, stabOk, dC, ev, fillD, pickCells, putAt, bnd, slD, List.getElem?_cons_zero, List.getElem?_cons_succ, Mem.cell, Mem.row, cells_own, cells_ro, t3]
    refine SK_apS h8 2 (n := j) (k := 1) (ys := [.int .u8 ((UInt8.ofNat J).toNat : Int), .slice (some ⟨w, 0, none⟩) d.length 1]) rfl (by simp [wkB, retV, stabOk, dC, ev, fillD, pickCells, putAt, bnd, slD, List.getElem?_cons_zero, List.getElem?_cons_succ, Mem.cell, Mem.row, cells_own, cells_ro]) hcl hob (by simp [wkB, retV, stabOk, dC, ev, fillD, pickCells, putAt, bnd, slD, List.getElem?_cons_zero, List.getElem?_cons_succ, Mem.cell, Mem.row, cells_own, cells_ro]; exact hO8.elems) (by simp [wkB, retV, stabOk, dC, ev, fillD, pickCells, putAt, bnd, slD, List.getElem?_cons_zero, List.getElem?_cons_succ, Mem.cell, Mem.row, cells_own, cells_ro]) rfl (by omega) (by unfold maxLen; omega) rfl fun ob9 m9 h9 hn9 _ => ?_
    simp -implicitDefEqProofs (disch := first | assumption | omega | fail) [wkB, retV, stabOk, dC, ev, fillD, pickCells, putAt, bnd, slD, List.getElem?_cons_zero, List.getElem?_cons_succ, Mem.cell, Mem.row, cells_own, cells_ro, t8, wj]
    have h11 := (h9.tl).perm (List.perm_append_comm (l₁ := [byH (some w) d]))
    refine hK (k - 1) _ _ (by omega) ⟨J, ob9, vs ++ [w], by omega, ?_, by simp [hvs]; omega, fun e => by have := hn9 e; omega, by rw [← hJ]; simp, by simp [t6], by simp [t7], by simp⟩
    rw [hnl, bkC_app w (UInt8.ofNat J, d) hvl, bkD_app w (UInt8.ofNat J, d) hvl]
    exact h11
  · have hjj : j = xs.length := by omega
    subst hjj
    rw [List.take_length] at h4
    simp -implicitDefEqProofs (disch := first | assumption | omega | fail) [rc21_1, rc21_2, wkB, retV, stabOk, dC, ev, fillD, pickCells, putAt, bnd, slD, List.getElem?_cons_zero, List.getElem?_cons_succ, Mem.cell, Mem.row, cells_own, cells_ro, t3, t7, t8]
    exact hq ob vs m4 (h.addO h4) h4.toOld hvs hob
end Go.Proofs.YthmhappejchilaaGreatDoor.Ab

namespace Go.Proofs
open Go.Shelf
def Tryz.lays162_ren : Go.Shelf.Ren := ⟨fun | 162 => 60 | 232 => 87 | 227 => 88 | 234 => 89 | 236 => 90 | 228 => 108 | 271 => 109 | 151 => 110 | 120 => 130 | 197 => 128 | 152 => 131 | 260 => 141 | 137 => 142 | 119 => 143 | 224 => 125 | 225 => 124 | 217 => 123 | 266 => 139 | n => n, fun | 9 => 9 | 4 => 4 | 3 => 3 | 5 => 5 | 117 => 135 | 116 => 134 | 0 => 0 | 124 => 138 | 21 => 21 | 105 => 164 | 46 => 128 | 119 => 209 | 139 => 212 | 138 => 211 | n => n, fun | 3 => 7 | 4 => 8 | n => n⟩
theorem Tryz.lays162 : Go.Proofs.Lays.n162 Tryz.prog Tryz.lays162_ren := {
  mixed := by kernel_rfl
  f119 := Tryz.func143.trans (congrArg some (by kernel_rfl))
  f120 := Tryz.func130.trans (congrArg some (by kernel_rfl))
  f137 := Tryz.func142.trans (congrArg some (by kernel_rfl))
  f151 := Tryz.func110.trans (congrArg some (by kernel_rfl))
  f152 := Tryz.func131.trans (congrArg some (by kernel_rfl))
  f162 := Tryz.func60.trans (congrArg some (by kernel_rfl))
  f197 := Tryz.func128.trans (congrArg some (by kernel_rfl))
  f217 := Tryz.func123.trans (congrArg some (by kernel_rfl))
  f224 := Tryz.func125.trans (congrArg some (by kernel_rfl))
  f225 := Tryz.func124.trans (congrArg some (by kernel_rfl))
  f227 := Tryz.func88.trans (congrArg some (by kernel_rfl))
  f228 := Tryz.func108.trans (congrArg some (by kernel_rfl))
  f232 := Tryz.func87.trans (congrArg some (by kernel_rfl))
  f234 := Tryz.func89.trans (congrArg some (by kernel_rfl))
  f236 := Tryz.func90.trans (congrArg some (by kernel_rfl))
  f260 := Tryz.func141.trans (congrArg some (by kernel_rfl))
  f266 := Tryz.func139.trans (congrArg some (by kernel_rfl))
  f271 := Tryz.func109.trans (congrArg some (by kernel_rfl))
  t0 := Tryz.underlying0
  a0 := Tryz.isAgg0
  z0 := Tryz.sizeOf0
  v0 := Tryz.zeroValue0
  t3 := Tryz.underlying3
  a3 := Tryz.isAgg3
  z3 := Tryz.sizeOf3
  v3 := Tryz.zeroValue3
  t4 := Tryz.underlying4
  a4 := Tryz.isAgg4
  z4 := Tryz.sizeOf4
  v4 := Tryz.zeroValue4
  t5 := Tryz.underlying5
  a5 := Tryz.isAgg5
  z5 := Tryz.sizeOf5
  v5 := Tryz.zeroValue5
  t9 := Tryz.underlying9
  a9 := Tryz.isAgg9
  z9 := Tryz.sizeOf9
  v9 := Tryz.zeroValue9
  t21 := Tryz.underlying21
  a21 := Tryz.isAgg21
  z21 := Tryz.sizeOf21
  v21 := Tryz.zeroValue21
  t46 := Tryz.underlying128
  a46 := Tryz.isAgg128
  z46 := Tryz.sizeOf128
  v46 := Tryz.zeroValue128
  t105 := Tryz.underlying164
  a105 := Tryz.isAgg164
  z105 := Tryz.sizeOf164
  v105 := Tryz.zeroValue164
  t116 := Tryz.underlying134
  a116 := Tryz.isAgg134
  z116 := Tryz.sizeOf134
  t117 := Tryz.underlying135
  a117 := Tryz.isAgg135
  z117 := Tryz.sizeOf135
  v117 := Tryz.zeroValue135
  t119 := Tryz.underlying209
  a119 := Tryz.isAgg209
  z119 := Tryz.sizeOf209
  t124 := Tryz.underlying138
  a124 := Tryz.isAgg138
  z124 := Tryz.sizeOf138
  v124 := Tryz.zeroValue138
  t138 := Tryz.underlying211
  a138 := Tryz.isAgg211
  z138 := Tryz.sizeOf211
  v138 := Tryz.zeroValue211
  t139 := Tryz.underlying212
  a139 := Tryz.isAgg212
  z139 := Tryz.sizeOf212
  v139 := Tryz.zeroValue212
  g3 := by kernel_rfl
  g4 := by kernel_rfl }
open Go.RowKit in
/-- strings.TrimRight: "TrimRight returns a slice of the string s, with all trailing Unicode code points contained in cutset removed.": AT A cutset OF ONE ASCII BYTE. The world is as it was. (LAID: no walk: one application.) -/
theorem Tryz.strings_TrimRight_one (s : ByteArray) (c : UInt8) (hc : c.toNat < 128) (w : World) (hs : s.size ≤ 9223372036854775807) :
    Calls Tryz.prog 60 #[.string s, .string ⟨#[c]⟩] w fun e w' => e = .returned (.string ⟨(Lib.trimRightB s.data.toList c).toArray⟩) ∧ w' = w := Any.strings_TrimRight_one Tryz.lays162 s c hc w hs
def Tryz.laysM246_ren : Go.Shelf.Ren := ⟨fun | 246 => 66 | 283 => 96 | 284 => 97 | 285 => 98 | 286 => 99 | 129 => 117 | 317 => 116 | 318 => 118 | 319 => 119 | 320 => 120 | 337 => 137 | 338 => 138 | n => n, fun | 2 => 2 | 3 => 3 | 9 => 9 | 4 => 4 | 171 => 153 | 0 => 0 | 53 => 154 | 37 => 24 | 5 => 5 | 173 => 157 | 212 => 184 | 51 => 26 | 20 => 20 | 213 => 185 | 46 => 128 | 232 => 207 | 233 => 208 | n => n, fun | 17 => 1 | 18 => 5 | 19 => 6 | n => n⟩
theorem Tryz.laysM246 : Go.Proofs.LaysM.n246 Tryz.prog Tryz.laysM246_ren := {
  mixed := by kernel_rfl
  f129 := Tryz.func117.trans (congrArg some (by kernel_rfl))
  f246 := Tryz.func66.trans (congrArg some (by kernel_rfl))
  f283 := Tryz.func96.trans (congrArg some (by kernel_rfl))
  f284 := Tryz.func97.trans (congrArg some (by kernel_rfl))
  f285 := Tryz.func98.trans (congrArg some (by kernel_rfl))
  f286 := Tryz.func99.trans (congrArg some (by kernel_rfl))
  f317 := Tryz.func116.trans (congrArg some (by kernel_rfl))
  f318 := Tryz.func118.trans (congrArg some (by kernel_rfl))
  f319 := Tryz.func119.trans (congrArg some (by kernel_rfl))
  f320 := Tryz.func120.trans (congrArg some (by kernel_rfl))
  f337 := Tryz.func137.trans (congrArg some (by kernel_rfl))
  f338 := Tryz.func138.trans (congrArg some (by kernel_rfl))
  t0 := Tryz.underlying0
  a0 := Tryz.isAgg0
  z0 := Tryz.sizeOf0
  v0 := Tryz.zeroValue0
  t2 := Tryz.underlying2
  a2 := Tryz.isAgg2
  z2 := Tryz.sizeOf2
  v2 := Tryz.zeroValue2
  t3 := Tryz.underlying3
  a3 := Tryz.isAgg3
  z3 := Tryz.sizeOf3
  v3 := Tryz.zeroValue3
  t4 := Tryz.underlying4
  a4 := Tryz.isAgg4
  z4 := Tryz.sizeOf4
  v4 := Tryz.zeroValue4
  t5 := Tryz.underlying5
  a5 := Tryz.isAgg5
  z5 := Tryz.sizeOf5
  v5 := Tryz.zeroValue5
  t9 := Tryz.underlying9
  a9 := Tryz.isAgg9
  z9 := Tryz.sizeOf9
  v9 := Tryz.zeroValue9
  t20 := Tryz.underlying20
  a20 := Tryz.isAgg20
  z20 := Tryz.sizeOf20
  v20 := Tryz.zeroValue20
  t37 := Tryz.underlying24
  a37 := Tryz.isAgg24
  z37 := Tryz.sizeOf24
  v37 := Tryz.zeroValue24
  t46 := Tryz.underlying128
  a46 := Tryz.isAgg128
  z46 := Tryz.sizeOf128
  v46 := Tryz.zeroValue128
  t51 := Tryz.underlying26
  a51 := Tryz.isAgg26
  z51 := Tryz.sizeOf26
  v51 := Tryz.zeroValue26
  t53 := Tryz.underlying154
  a53 := Tryz.isAgg154
  z53 := Tryz.sizeOf154
  v53 := Tryz.zeroValue154
  t171 := Tryz.underlying153
  a171 := Tryz.isAgg153
  z171 := Tryz.sizeOf153
  v171 := Tryz.zeroValue153
  t173 := Tryz.underlying157
  a173 := Tryz.isAgg157
  z173 := Tryz.sizeOf157
  v173 := Tryz.zeroValue157
  t212 := Tryz.underlying184
  a212 := Tryz.isAgg184
  z212 := Tryz.sizeOf184
  v212 := Tryz.zeroValue184
  t213 := Tryz.underlying185
  a213 := Tryz.isAgg185
  z213 := Tryz.sizeOf185
  t232 := Tryz.underlying207
  a232 := Tryz.isAgg207
  z232 := Tryz.sizeOf207
  v232 := Tryz.zeroValue207
  t233 := Tryz.underlying208
  a233 := Tryz.isAgg208
  z233 := Tryz.sizeOf208
  v233 := Tryz.zeroValue208
  g17 := by kernel_rfl
  g18 := by kernel_rfl
  g19 := by kernel_rfl
  i0 := by kernel_rfl
  i2 := by kernel_rfl
  i3 := by kernel_rfl
  i4 := by kernel_rfl
  i5 := by kernel_rfl
  i9 := by kernel_rfl
  i20 := by kernel_rfl
  i37 := by kernel_rfl
  i46 := by kernel_rfl
  i51 := by kernel_rfl
  i53 := by kernel_rfl
  i171 := by kernel_rfl
  i173 := by kernel_rfl
  i212 := by kernel_rfl
  i232 := by kernel_rfl
  i233 := by kernel_rfl
  m17 := by kernel_rfl
  m18 := by kernel_rfl
  m19 := by kernel_rfl }
open Go.RowKit Go.Sort Go.Lib in
/-- internal/strconv.FormatInt: "FormatInt returns the string representation of i in the given base": AT BASE 10: i's decimal numeral, for every int64. The world behind the call: the world before it, new blocks behind the heap, draws. (LAID: no walk: one application.) -/
theorem Tryz.internal_strconv_FormatInt_10 (n : Int) (h0 : -9223372036854775808 ≤ n) (h1 : n ≤ 9223372036854775807) (w : World) (htab : Lib.TabIs Tryz.prog w "internal/strconv.uint64pow10" .u64 Lib.pow10Tab) :
    Calls Tryz.prog 66 #[.int .i64 n, .int .i64 10] w fun e w' => e = .returned (.string ⟨(Lib.itoa n).toArray⟩) ∧ ∃ k os, w' = grow (w.drewN k) os := Any.internal_strconv_FormatInt_10 Tryz.laysM246 n h0 h1 w htab
def Tryz.laysC245_ren : Go.Shelf.Ren := ⟨fun | 245 => 112 | 279 => 133 | 280 => 134 | 281 => 135 | 282 => 136 | 316 => 146 | 171 => 43 | 205 => 147 | 243 => 65 | 246 => 66 | 283 => 96 | 284 => 97 | 285 => 98 | 286 => 99 | 129 => 117 | 317 => 116 | 318 => 118 | 319 => 119 | 320 => 120 | 337 => 137 | 338 => 138 | n => n, fun | 9 => 9 | 3 => 3 | 75 => 34 | 167 => 192 | 4 => 4 | 168 => 195 | 210 => 205 | 37 => 24 | 0 => 0 | 127 => 159 | 145 => 215 | 143 => 213 | 2 => 2 | 171 => 153 | 53 => 154 | 5 => 5 | 173 => 157 | 212 => 184 | 51 => 26 | 20 => 20 | 213 => 185 | 46 => 128 | 232 => 207 | 233 => 208 | 80 => 63 | n => n, fun | 15 => 3 | 16 => 4 | 17 => 1 | 18 => 5 | 19 => 6 | n => n⟩
theorem Tryz.laysC245 : Go.Proofs.LaysC.n245 Tryz.prog Tryz.laysC245_ren := {
  mixed := by kernel_rfl
  f129 := Tryz.func117.trans (congrArg some (by kernel_rfl))
  f171 := Tryz.func43.trans (congrArg some (by kernel_rfl))
  f205 := Tryz.func147.trans (congrArg some (by kernel_rfl))
  f243 := Tryz.func65.trans (congrArg some (by kernel_rfl))
  f245 := Tryz.func112.trans (congrArg some (by kernel_rfl))
  f246 := Tryz.func66.trans (congrArg some (by kernel_rfl))
  f279 := Tryz.func133.trans (congrArg some (by kernel_rfl))
  f280 := Tryz.func134.trans (congrArg some (by kernel_rfl))
  f281 := Tryz.func135.trans (congrArg some (by kernel_rfl))
  f282 := Tryz.func136.trans (congrArg some (by kernel_rfl))
  f283 := Tryz.func96.trans (congrArg some (by kernel_rfl))
  f284 := Tryz.func97.trans (congrArg some (by kernel_rfl))
  f285 := Tryz.func98.trans (congrArg some (by kernel_rfl))
  f286 := Tryz.func99.trans (congrArg some (by kernel_rfl))
  f316 := Tryz.func146.trans (congrArg some (by kernel_rfl))
  f317 := Tryz.func116.trans (congrArg some (by kernel_rfl))
  f318 := Tryz.func118.trans (congrArg some (by kernel_rfl))
  f319 := Tryz.func119.trans (congrArg some (by kernel_rfl))
  f320 := Tryz.func120.trans (congrArg some (by kernel_rfl))
  f337 := Tryz.func137.trans (congrArg some (by kernel_rfl))
  f338 := Tryz.func138.trans (congrArg some (by kernel_rfl))
  t0 := Tryz.underlying0
  a0 := Tryz.isAgg0
  z0 := Tryz.sizeOf0
  v0 := Tryz.zeroValue0
  t2 := Tryz.underlying2
  a2 := Tryz.isAgg2
  z2 := Tryz.sizeOf2
  v2 := Tryz.zeroValue2
  t3 := Tryz.underlying3
  a3 := Tryz.isAgg3
  z3 := Tryz.sizeOf3
  v3 := Tryz.zeroValue3
  t4 := Tryz.underlying4
  a4 := Tryz.isAgg4
  z4 := Tryz.sizeOf4
  v4 := Tryz.zeroValue4
  t5 := Tryz.underlying5
  a5 := Tryz.isAgg5
  z5 := Tryz.sizeOf5
  v5 := Tryz.zeroValue5
  t9 := Tryz.underlying9
  a9 := Tryz.isAgg9
  z9 := Tryz.sizeOf9
  v9 := Tryz.zeroValue9
  t20 := Tryz.underlying20
  a20 := Tryz.isAgg20
  z20 := Tryz.sizeOf20
  v20 := Tryz.zeroValue20
  t37 := Tryz.underlying24
  a37 := Tryz.isAgg24
  z37 := Tryz.sizeOf24
  v37 := Tryz.zeroValue24
  t46 := Tryz.underlying128
  a46 := Tryz.isAgg128
  z46 := Tryz.sizeOf128
  v46 := Tryz.zeroValue128
  t51 := Tryz.underlying26
  a51 := Tryz.isAgg26
  z51 := Tryz.sizeOf26
  v51 := Tryz.zeroValue26
  t53 := Tryz.underlying154
  a53 := Tryz.isAgg154
  z53 := Tryz.sizeOf154
  v53 := Tryz.zeroValue154
  t75 := Tryz.underlying34
  a75 := Tryz.isAgg34
  z75 := Tryz.sizeOf34
  v75 := Tryz.zeroValue34
  t127 := Tryz.underlying159
  a127 := Tryz.isAgg159
  z127 := Tryz.sizeOf159
  v127 := Tryz.zeroValue159
  t143 := Tryz.underlying213
  a143 := Tryz.isAgg213
  z143 := Tryz.sizeOf213
  v143 := Tryz.zeroValue213
  t145 := Tryz.underlying215
  a145 := Tryz.isAgg215
  z145 := Tryz.sizeOf215
  v145 := Tryz.zeroValue215
  t167 := Tryz.underlying192
  a167 := Tryz.isAgg192
  z167 := Tryz.sizeOf192
  v167 := Tryz.zeroValue192
  t168 := Tryz.underlying195
  a168 := Tryz.isAgg195
  z168 := Tryz.sizeOf195
  v168 := Tryz.zeroValue195
  t171 := Tryz.underlying153
  a171 := Tryz.isAgg153
  z171 := Tryz.sizeOf153
  v171 := Tryz.zeroValue153
  t173 := Tryz.underlying157
  a173 := Tryz.isAgg157
  z173 := Tryz.sizeOf157
  v173 := Tryz.zeroValue157
  t210 := Tryz.underlying205
  a210 := Tryz.isAgg205
  z210 := Tryz.sizeOf205
  v210 := Tryz.zeroValue205
  t212 := Tryz.underlying184
  a212 := Tryz.isAgg184
  z212 := Tryz.sizeOf184
  v212 := Tryz.zeroValue184
  t213 := Tryz.underlying185
  a213 := Tryz.isAgg185
  z213 := Tryz.sizeOf185
  t232 := Tryz.underlying207
  a232 := Tryz.isAgg207
  z232 := Tryz.sizeOf207
  v232 := Tryz.zeroValue207
  t233 := Tryz.underlying208
  a233 := Tryz.isAgg208
  z233 := Tryz.sizeOf208
  v233 := Tryz.zeroValue208
  g15 := by kernel_rfl
  g16 := by kernel_rfl
  g17 := by kernel_rfl
  g18 := by kernel_rfl
  g19 := by kernel_rfl
  t80 := Tryz.underlying63
  a80 := Tryz.isAgg63
  z80 := Tryz.sizeOf63
  v80 := Tryz.zeroValue63
  i0 := by kernel_rfl
  i2 := by kernel_rfl
  i3 := by kernel_rfl
  i4 := by kernel_rfl
  i5 := by kernel_rfl
  i9 := by kernel_rfl
  i20 := by kernel_rfl
  i37 := by kernel_rfl
  i46 := by kernel_rfl
  i51 := by kernel_rfl
  i53 := by kernel_rfl
  i75 := by kernel_rfl
  i80 := by kernel_rfl
  i127 := by kernel_rfl
  i143 := by kernel_rfl
  i145 := by kernel_rfl
  i167 := by kernel_rfl
  i168 := by kernel_rfl
  i171 := by kernel_rfl
  i173 := by kernel_rfl
  i210 := by kernel_rfl
  i212 := by kernel_rfl
  i232 := by kernel_rfl
  i233 := by kernel_rfl
  m15 := by kernel_rfl
  m16 := by kernel_rfl
  m17 := by kernel_rfl
  m18 := by kernel_rfl
  m19 := by kernel_rfl
  c0 := by kernel_rfl
  c2 := by kernel_rfl
  c3 := by kernel_rfl
  c4 := by kernel_rfl
  c5 := by kernel_rfl
  c9 := by kernel_rfl
  c20 := by kernel_rfl
  c37 := by kernel_rfl
  c46 := by kernel_rfl
  c51 := by kernel_rfl
  c53 := by kernel_rfl
  c75 := by kernel_rfl
  c80 := by kernel_rfl
  c127 := by kernel_rfl
  c143 := by kernel_rfl
  c145 := by kernel_rfl
  c167 := by kernel_rfl
  c168 := by kernel_rfl
  c171 := by kernel_rfl
  c173 := by kernel_rfl
  c210 := by kernel_rfl
  c212 := by kernel_rfl
  c213 := by kernel_rfl
  c232 := by kernel_rfl
  c233 := by kernel_rfl }
open Go.RowKit in
/-- strconv.toError, at the inner package's ErrSyntax: 'syntaxError(fn, s)' as an error: A *NumError IN A NEW BLOCK. (LAID: no walk: one application.) -/
theorem Tryz.strconv_toError_syntax (fn s : ByteArray) (base bits : Int) (ev : Value) (w : World) (hlim : s.size ≤ 281474976710656) (hv : w.cell? ⟨3, 0, none⟩ = some ev) (hev : ev = .nilIface ∨ ∃ te pe, ev = .iface te pe) :
    Calls Tryz.prog 112 #[.string fn, .string s, .int .i64 base, .int .i64 bits, .iface 192 (.int .i64 2)] w fun e w' => ∃ N, e = .returned (.iface 195 (.pointer (some ⟨N, 0, none⟩))) ∧ w.heap.size ≤ N ∧ w'.heap[N]? = some (.cells #[.string fn, .string s, ev] 205 (0, 0)) ∧ Below w.heap.size w w' := Any.strconv_toError_syntax Tryz.laysC245 fn s base bits ev w hlim hv hev
open Go.RowKit in
/-- strconv.toError, at the inner package's ErrRange: 'rangeError(fn, s)' as an error: A *NumError IN A NEW BLOCK. (LAID: no walk: one application.) -/
theorem Tryz.strconv_toError_range (fn s : ByteArray) (base bits : Int) (ev : Value) (w : World) (hlim : s.size ≤ 281474976710656) (hv : w.cell? ⟨4, 0, none⟩ = some ev) (hev : ev = .nilIface ∨ ∃ te pe, ev = .iface te pe) :
    Calls Tryz.prog 112 #[.string fn, .string s, .int .i64 base, .int .i64 bits, .iface 192 (.int .i64 1)] w fun e w' => ∃ N, e = .returned (.iface 195 (.pointer (some ⟨N, 0, none⟩))) ∧ w.heap.size ≤ N ∧ w'.heap[N]? = some (.cells #[.string fn, .string s, ev] 205 (0, 0)) ∧ Below w.heap.size w w' := Any.strconv_toError_range Tryz.laysC245 fn s base bits ev w hlim hv hev
def Tryz.lays219_ren : Go.Shelf.Ren := ⟨fun | 219 => 104 | 217 => 123 | 225 => 124 | 224 => 125 | 267 => 126 | 266 => 139 | 314 => 140 | n => n, fun | 9 => 9 | 3 => 3 | 4 => 4 | 5 => 5 | 46 => 128 | 146 => 199 | 51 => 26 | n => n, fun | 1 => 2 | n => n⟩
theorem Tryz.lays219 : Go.Proofs.Lays.n219 Tryz.prog Tryz.lays219_ren := {
  mixed := by kernel_rfl
  f217 := Tryz.func123.trans (congrArg some (by kernel_rfl))
  f219 := Tryz.func104.trans (congrArg some (by kernel_rfl))
  f224 := Tryz.func125.trans (congrArg some (by kernel_rfl))
  f225 := Tryz.func124.trans (congrArg some (by kernel_rfl))
  f266 := Tryz.func139.trans (congrArg some (by kernel_rfl))
  f267 := Tryz.func126.trans (congrArg some (by kernel_rfl))
  f314 := Tryz.func140.trans (congrArg some (by kernel_rfl))
  t3 := Tryz.underlying3
  a3 := Tryz.isAgg3
  z3 := Tryz.sizeOf3
  v3 := Tryz.zeroValue3
  t4 := Tryz.underlying4
  a4 := Tryz.isAgg4
  z4 := Tryz.sizeOf4
  v4 := Tryz.zeroValue4
  t5 := Tryz.underlying5
  a5 := Tryz.isAgg5
  z5 := Tryz.sizeOf5
  v5 := Tryz.zeroValue5
  t9 := Tryz.underlying9
  a9 := Tryz.isAgg9
  z9 := Tryz.sizeOf9
  v9 := Tryz.zeroValue9
  t46 := Tryz.underlying128
  a46 := Tryz.isAgg128
  z46 := Tryz.sizeOf128
  v46 := Tryz.zeroValue128
  t51 := Tryz.underlying26
  a51 := Tryz.isAgg26
  z51 := Tryz.sizeOf26
  v51 := Tryz.zeroValue26
  t146 := Tryz.underlying199
  a146 := Tryz.isAgg199
  z146 := Tryz.sizeOf199
  v146 := Tryz.zeroValue199
  g1 := by kernel_rfl }
open Go.RowKit Go.Lib in
/-- internal/stringslite.Index (what strings.Index calls) AT A substr OF ONE BYTE c: IT RETURNS 'Lib.indexByte s c'; the world is as it was. (LAID: no walk: one application.) -/
theorem Tryz.stringslite_Index_one (s : ByteArray) (c : UInt8) (w : World) :
    Calls Tryz.prog 104 #[.string s, .string ⟨#[c]⟩] w fun e w' => e = .returned (.int .i64 (Lib.indexByte s.data.toList c)) ∧ w' = w := Any.stringslite_Index_one Tryz.lays219 s c w
def Tryz.lays143_ren : Go.Shelf.Ren := ⟨fun | 143 => 107 | 219 => 104 | 217 => 123 | 225 => 124 | 224 => 125 | 267 => 126 | 266 => 139 | 314 => 140 | n => n, fun | 9 => 9 | 3 => 3 | 4 => 4 | 5 => 5 | 46 => 128 | 146 => 199 | 51 => 26 | n => n, fun | 1 => 2 | n => n⟩
theorem Tryz.lays143 : Go.Proofs.Lays.n143 Tryz.prog Tryz.lays143_ren := {
  mixed := by kernel_rfl
  f143 := Tryz.func107.trans (congrArg some (by kernel_rfl))
  f217 := Tryz.func123.trans (congrArg some (by kernel_rfl))
  f219 := Tryz.func104.trans (congrArg some (by kernel_rfl))
  f224 := Tryz.func125.trans (congrArg some (by kernel_rfl))
  f225 := Tryz.func124.trans (congrArg some (by kernel_rfl))
  f266 := Tryz.func139.trans (congrArg some (by kernel_rfl))
  f267 := Tryz.func126.trans (congrArg some (by kernel_rfl))
  f314 := Tryz.func140.trans (congrArg some (by kernel_rfl))
  t3 := Tryz.underlying3
  a3 := Tryz.isAgg3
  z3 := Tryz.sizeOf3
  v3 := Tryz.zeroValue3
  t4 := Tryz.underlying4
  a4 := Tryz.isAgg4
  z4 := Tryz.sizeOf4
  v4 := Tryz.zeroValue4
  t5 := Tryz.underlying5
  a5 := Tryz.isAgg5
  z5 := Tryz.sizeOf5
  v5 := Tryz.zeroValue5
  t9 := Tryz.underlying9
  a9 := Tryz.isAgg9
  z9 := Tryz.sizeOf9
  v9 := Tryz.zeroValue9
  t46 := Tryz.underlying128
  a46 := Tryz.isAgg128
  z46 := Tryz.sizeOf128
  v46 := Tryz.zeroValue128
  t51 := Tryz.underlying26
  a51 := Tryz.isAgg26
  z51 := Tryz.sizeOf26
  v51 := Tryz.zeroValue26
  t146 := Tryz.underlying199
  a146 := Tryz.isAgg199
  z146 := Tryz.sizeOf199
  v146 := Tryz.zeroValue199
  g1 := by kernel_rfl }
open Go.RowKit Go.Lib in
/-- strings.Index: "Index returns the index of the first instance of substr in s, or -1 if substr is not present in s.": AT A substr OF ONE BYTE c: IT RETURNS 'Lib.indexByte s c'; the world is as it was. (LAID: no walk: one application.) -/
theorem Tryz.strings_Index_one (s : ByteArray) (c : UInt8) (w : World) :
    Calls Tryz.prog 107 #[.string s, .string ⟨#[c]⟩] w fun e w' => e = .returned (.int .i64 (Lib.indexByte s.data.toList c)) ∧ w' = w := Any.strings_Index_one Tryz.lays143 s c w
def Tryz.lays138_ren : Go.Shelf.Ren := ⟨fun | 138 => 106 | 195 => 127 | 218 => 129 | 143 => 107 | 219 => 104 | 217 => 123 | 225 => 124 | 224 => 125 | 267 => 126 | 266 => 139 | 314 => 140 | n => n, fun | 9 => 9 | 3 => 3 | 4 => 4 | 5 => 5 | 0 => 0 | 46 => 128 | 146 => 199 | 51 => 26 | n => n, fun | 1 => 2 | n => n⟩
theorem Tryz.lays138 : Go.Proofs.Lays.n138 Tryz.prog Tryz.lays138_ren := {
  mixed := by kernel_rfl
  f138 := Tryz.func106.trans (congrArg some (by kernel_rfl))
  f143 := Tryz.func107.trans (congrArg some (by kernel_rfl))
  f195 := Tryz.func127.trans (congrArg some (by kernel_rfl))
  f217 := Tryz.func123.trans (congrArg some (by kernel_rfl))
  f218 := Tryz.func129.trans (congrArg some (by kernel_rfl))
  f219 := Tryz.func104.trans (congrArg some (by kernel_rfl))
  f224 := Tryz.func125.trans (congrArg some (by kernel_rfl))
  f225 := Tryz.func124.trans (congrArg some (by kernel_rfl))
  f266 := Tryz.func139.trans (congrArg some (by kernel_rfl))
  f267 := Tryz.func126.trans (congrArg some (by kernel_rfl))
  f314 := Tryz.func140.trans (congrArg some (by kernel_rfl))
  t0 := Tryz.underlying0
  a0 := Tryz.isAgg0
  z0 := Tryz.sizeOf0
  v0 := Tryz.zeroValue0
  t3 := Tryz.underlying3
  a3 := Tryz.isAgg3
  z3 := Tryz.sizeOf3
  v3 := Tryz.zeroValue3
  t4 := Tryz.underlying4
  a4 := Tryz.isAgg4
  z4 := Tryz.sizeOf4
  v4 := Tryz.zeroValue4
  t5 := Tryz.underlying5
  a5 := Tryz.isAgg5
  z5 := Tryz.sizeOf5
  v5 := Tryz.zeroValue5
  t9 := Tryz.underlying9
  a9 := Tryz.isAgg9
  z9 := Tryz.sizeOf9
  v9 := Tryz.zeroValue9
  t46 := Tryz.underlying128
  a46 := Tryz.isAgg128
  z46 := Tryz.sizeOf128
  v46 := Tryz.zeroValue128
  t51 := Tryz.underlying26
  a51 := Tryz.isAgg26
  z51 := Tryz.sizeOf26
  v51 := Tryz.zeroValue26
  t146 := Tryz.underlying199
  a146 := Tryz.isAgg199
  z146 := Tryz.sizeOf199
  v146 := Tryz.zeroValue199
  g1 := by kernel_rfl }
open Go.RowKit Go.Lib in
/-- strings.Count AT A substr OF ONE BYTE ('hp'): "Count counts the number of non-overlapping instances of substr in s.": IT RETURNS 'Lib.countByte s (that byte)'; the world is as it was. ✋ NO CONTRACT HERE YET at an empty substr (utf8.RuneCountInString) or at a longer one (a loop over strings.Index). (LAID: no walk: one application.) -/
theorem Tryz.strings_Count_one (s : ByteArray) (c : UInt8) (w : World) :
    Calls Tryz.prog 106 #[.string s, .string ⟨#[c]⟩] w fun e w' => e = .returned (.int .i64 (Lib.countByte s.data.toList c)) ∧ w' = w := Any.strings_Count_one Tryz.lays138 s c w
def Tryz.lays221_ren : Go.Shelf.Ren := ⟨fun | 221 => 86 | 268 => 105 | 138 => 106 | 143 => 107 | 195 => 127 | 197 => 128 | 218 => 129 | 219 => 104 | 260 => 141 | 217 => 123 | 225 => 124 | 224 => 125 | 267 => 126 | 266 => 139 | 314 => 140 | n => n, fun | 9 => 9 | 3 => 3 | 31 => 89 | 4 => 4 | 0 => 0 | 105 => 164 | 21 => 21 | 5 => 5 | 46 => 128 | 119 => 209 | 139 => 212 | 138 => 211 | 146 => 199 | 51 => 26 | n => n, fun | 1 => 2 | 3 => 7 | 4 => 8 | n => n⟩
theorem Tryz.lays221 : Go.Proofs.Lays.n221 Tryz.prog Tryz.lays221_ren := {
  mixed := by kernel_rfl
  f138 := Tryz.func106.trans (congrArg some (by kernel_rfl))
  f143 := Tryz.func107.trans (congrArg some (by kernel_rfl))
  f195 := Tryz.func127.trans (congrArg some (by kernel_rfl))
  f197 := Tryz.func128.trans (congrArg some (by kernel_rfl))
  f217 := Tryz.func123.trans (congrArg some (by kernel_rfl))
  f218 := Tryz.func129.trans (congrArg some (by kernel_rfl))
  f219 := Tryz.func104.trans (congrArg some (by kernel_rfl))
  f221 := Tryz.func86.trans (congrArg some (by kernel_rfl))
  f224 := Tryz.func125.trans (congrArg some (by kernel_rfl))
  f225 := Tryz.func124.trans (congrArg some (by kernel_rfl))
  f260 := Tryz.func141.trans (congrArg some (by kernel_rfl))
  f266 := Tryz.func139.trans (congrArg some (by kernel_rfl))
  f267 := Tryz.func126.trans (congrArg some (by kernel_rfl))
  f268 := Tryz.func105.trans (congrArg some (by kernel_rfl))
  f314 := Tryz.func140.trans (congrArg some (by kernel_rfl))
  t0 := Tryz.underlying0
  a0 := Tryz.isAgg0
  z0 := Tryz.sizeOf0
  v0 := Tryz.zeroValue0
  t3 := Tryz.underlying3
  a3 := Tryz.isAgg3
  z3 := Tryz.sizeOf3
  v3 := Tryz.zeroValue3
  t4 := Tryz.underlying4
  a4 := Tryz.isAgg4
  z4 := Tryz.sizeOf4
  v4 := Tryz.zeroValue4
  t5 := Tryz.underlying5
  a5 := Tryz.isAgg5
  z5 := Tryz.sizeOf5
  v5 := Tryz.zeroValue5
  t9 := Tryz.underlying9
  a9 := Tryz.isAgg9
  z9 := Tryz.sizeOf9
  v9 := Tryz.zeroValue9
  t21 := Tryz.underlying21
  a21 := Tryz.isAgg21
  z21 := Tryz.sizeOf21
  v21 := Tryz.zeroValue21
  t31 := Tryz.underlying89
  a31 := Tryz.isAgg89
  z31 := Tryz.sizeOf89
  v31 := Tryz.zeroValue89
  t46 := Tryz.underlying128
  a46 := Tryz.isAgg128
  z46 := Tryz.sizeOf128
  v46 := Tryz.zeroValue128
  t51 := Tryz.underlying26
  a51 := Tryz.isAgg26
  z51 := Tryz.sizeOf26
  v51 := Tryz.zeroValue26
  t105 := Tryz.underlying164
  a105 := Tryz.isAgg164
  z105 := Tryz.sizeOf164
  v105 := Tryz.zeroValue164
  t119 := Tryz.underlying209
  a119 := Tryz.isAgg209
  z119 := Tryz.sizeOf209
  t138 := Tryz.underlying211
  a138 := Tryz.isAgg211
  z138 := Tryz.sizeOf211
  v138 := Tryz.zeroValue211
  t139 := Tryz.underlying212
  a139 := Tryz.isAgg212
  z139 := Tryz.sizeOf212
  v139 := Tryz.zeroValue212
  t146 := Tryz.underlying199
  a146 := Tryz.isAgg199
  z146 := Tryz.sizeOf199
  v146 := Tryz.zeroValue199
  g1 := by kernel_rfl
  g3 := by kernel_rfl
  g4 := by kernel_rfl }
end Go.Proofs

set_option linter.unusedVariables false
set_option linter.unusedSimpArgs false
namespace Go.Proofs.YthmhappejchilaaGreatDoor.Ab
open Go Go.RowKit
set_option maxHeartbeats 4000000
set_option maxRecDepth 100000
/-- The table of powers of ten lies in the world. -/
abbrev Ten (w : World) : Prop := Lib.TabIs Tryz.prog w "internal/strconv.uint64pow10" .u64 Lib.pow10Tab
theorem tab_at {P : Program} {w0 w : World} {G : Loc} {m : Mem} {name : String} {k : IntKind} {zs : List Int} (h : Lib.TabIs P w0 name k zs) (hs : St P w0 G m w) : Lib.TabIs P w name k zs := by
  unfold Lib.TabIs World.var? at h ⊢
  cases hg : P.globalNamed name with
  | none => rw [hg] at h; simp at h
  | some g =>
    rw [hg] at h
    simp only [Option.bind_some] at h ⊢
    have hlt : g < w0.heap.size := by
      rcases Nat.lt_or_ge g w0.heap.size with h' | h'
      · exact h'
      · rw [Array.getElem?_eq_none h'] at h; cases h
    rw [hs.below.block g hlt]; exact h
theorem tab_mem {P : Program} {W : World} {l : List (String × DataW Unit)} {name : String} {k : IntKind} {zs : List Int} {g : Nat} {t e : TypeId} {n : Nat} (h : laidMet P l W) (hm : (name, Lib.tabData k zs) ∈ l)
    (hg : P.globalNamed name = some g) (hty : (P.globals[g]?).map (·.type) = some t) (ht : P.underlying t = some (.array n e)) (he : P.underlying e = some (.int k)) (hce : P.cellsOf e = 1) (hct : P.cellsOf t = n) : Lib.TabIs P W name k zs := by
  obtain ⟨ps, hv, _⟩ := h
  obtain ⟨g', t', cs, fuel, p, h1, h2, h3, h4⟩ := laid_mem hv hm
  obtain rfl := Option.some.inj (hg.symm.trans h1)
  obtain rfl := Option.some.inj (hty.symm.trans h2)
  have hcs := Lib.cells_of_tab ht he hce hct h4
  unfold Lib.TabIs
  rw [h3]
  congr 1
  exact Array.ext' (by simpa using hcs)
theorem ten_of {W : World} {l : List (String × DataW Unit)} (h : laidMet Tryz.prog l W) (hm : ("internal/strconv.uint64pow10", Lib.tabData .u64 z10) ∈ l) : Ten W := by
  have e : Lib.pow10Tab = z10 := by kernel_rfl
  unfold Ten
  rw [e]
  exact tab_mem (g := 1) h hm (by kernel_rfl) (by kernel_rfl) Tryz.underlying184 Tryz.underlying154 (by kernel_rfl) (by kernel_rfl)
/-- A contract of plain values that only grows the world. -/
theorem c_calls {P : Program} {w0 : World} {m : Mem} {f : FuncId} {args : List Value} {v : Value} {Q : Value → Mem → Prop} (hcall : callOk P f = true) (ha : args.all (plainV 6) = true) (hv : plainV 6 v = true)
    (h : ∀ (G : Loc) (w : World), St P w0 G m w → Calls P f args.toArray w fun e w' => e = .returned v ∧ Below w.heap.size w w') (hq : Q v m) : AbC P w0 f args m Q := by
  intro G w args' hs hargs
  have ha' : ∀ u ∈ args, plainV 6 u = true := by simpa [List.all_eq_true] using ha
  have he : args' = args := VRs.plain_eq hargs fun u hu u' hr => VR.plain_eq 6 u u' (ha' u hu) hr
  subst he
  rw [run_callFunc_enter hcall]
  show Calls _ _ _ _ _
  refine (h G w hs).mono ?_
  rintro e w' ⟨rfl, hb⟩
  exact ⟨v, rfl, G, v, m, Loc.le_refl G, VR.plain 6 v hv, hs.grown hb, hq⟩
/-- A number as a text. -/
def numS (B : Nat) (i : Int) : List UInt8 := sgn (decide (i < 0)) ++ digs B i.natAbs
theorem dec_digs : ∀ u, Lib.decDigits u = digs 10 u := by
  intro u
  induction u using Nat.strongRecOn with
  | _ u ih =>
    rw [Lib.decDigits]
    split
    · rename_i h
      rw [digs_lt h]; simp [digC, h]
    · rename_i h
      rw [digs_ge (by omega) (by omega), ih (u / 10) (by omega)]
      simp [digC, Nat.mod_lt]
theorem itoa_numS (n : Int) : Lib.itoa n = numS 10 n := by
  unfold Lib.itoa numS sgn
  by_cases h : n < 0
  · simp [h, dec_digs]
  · have : n.toNat = n.natAbs := by omega
    simp [h, dec_digs, this]
theorem c_fmt10 {w0 : World} {m : Mem} {n : Int} {Q : Value → Mem → Prop} (ht : Ten w0) (hn : -9223372036854775808 ≤ n ∧ n ≤ 9223372036854775807) (hq : Q (.string ⟨⟨numS 10 n⟩⟩) m) :
    AbC Tryz.prog w0 66 [.int .i64 n, .int .i64 10] m Q := by
  refine c_calls (v := .string ⟨⟨numS 10 n⟩⟩) (by kernel_rfl) rfl rfl (fun G w hs => ?_) hq
  refine (Tryz.internal_strconv_FormatInt_10 n hn.1 hn.2 w (tab_at ht hs)).mono ?_
  rintro e w' ⟨rfl, k, os, rfl⟩
  exact ⟨by rw [itoa_numS], Lib.below_grow _ w (Nat.le_refl _) k os⟩
theorem c_fmtP {w0 : World} {m : Mem} {B k : Nat} {i : Int} {Q : Value → Mem → Prop} (hp : Part L0 m) (hB : B = 2 ^ k) (hk : 3 ≤ k ∧ k ≤ 5) (h10 : B ≠ 10) (hi : -9223372036854775808 ≤ i ∧ i ≤ 9223372036854775807)
    (h1 : outIs (.bool true) (callE tab (xCall xs) Tryz.prog 50 119 [.int .i64 (B : Int)] L0) = true)
    (h2 : outIs (.int .i64 (k : Int)) (callE tab (xCall xs) Tryz.prog 50 120 [.int .u64 (B : Int)] L0) = true)
    (hq : ∀ m', Old m m' → Q (.string ⟨⟨numS B i⟩⟩) m') : AbC Tryz.prog w0 66 [.int .i64 i, .int .i64 (B : Int)] m Q := by
  refine AbC_fn ok66 (by simp) ?_
  have f2 : (B : Int) ≠ 10 := by omega
  simp -implicitDefEqProofs (disch := first | assumption | (simp only [wnA]; done) | (simp only [wnA]; omega) | omega | fail) [rc66, ro66, wkA, retV, stabOk, dC, ev, fillD, pickCells, putAt, bnd, slD, List.getElem?_cons_zero, List.getElem?_cons_succ, dR.eq_20, Mem.cell, Mem.row, wmA, beqF f2, rc66_3]
  refine c_fmtBits (k := k) (a := i.natAbs) hp hB hk h10 (by omega) ?_ h1 h2 fun m' ho => ?_
  · by_cases hn : i < 0
    · simp only [hn, decide_true, if_true]
      congr 1; omega
    · simp only [hn, decide_false, Bool.false_eq_true, if_false]
      rw [IntWalk.u64_in _ (by omega)]; omega
  · simp -implicitDefEqProofs (disch := first | assumption | (simp only [wnA]; done) | (simp only [wnA]; omega) | omega | fail) [wkA, retV, stabOk, dC, ev, fillD, pickCells, putAt, bnd, slD, List.getElem?_cons_zero, List.getElem?_cons_succ, dR.eq_20, Mem.cell, Mem.row, wmA]
    exact hq m' ho
theorem pow8 : outIs (.bool true) (callE tab (xCall xs) Tryz.prog 50 119 [.int .i64 ((8 : Nat) : Int)] L0) = true := by kernel_rfl
theorem tz8 : outIs (.int .i64 ((3 : Nat) : Int)) (callE tab (xCall xs) Tryz.prog 50 120 [.int .u64 ((8 : Nat) : Int)] L0) = true := by kernel_rfl
theorem pow16 : outIs (.bool true) (callE tab (xCall xs) Tryz.prog 50 119 [.int .i64 ((16 : Nat) : Int)] L0) = true := by kernel_rfl
theorem tz16 : outIs (.int .i64 ((4 : Nat) : Int)) (callE tab (xCall xs) Tryz.prog 50 120 [.int .u64 ((16 : Nat) : Int)] L0) = true := by kernel_rfl
/-- strconv.FormatInt at 8, 10, 16. -/
theorem c_FormatInt {w0 : World} {m : Mem} {B : Nat} {i : Int} {Q : Value → Mem → Prop} (hp : Part L0 m) (ht : Ten w0) (hB : B = 8 ∨ B = 10 ∨ B = 16) (hi : -9223372036854775808 ≤ i ∧ i ≤ 9223372036854775807)
    (hq : ∀ m', Old m m' → Q (.string ⟨⟨numS B i⟩⟩) m') : AbC Tryz.prog w0 44 [.int .i64 i, .int .i64 (B : Int)] m Q := by
  refine AbC_fn ok44 (by simp) ?_
  simp -implicitDefEqProofs (disch := first | assumption | (simp only [wnA]; done) | (simp only [wnA]; omega) | omega | fail) [rc44, ro44, wkA, retV, stabOk, dC, ev, fillD, pickCells, putAt, bnd, slD, List.getElem?_cons_zero, List.getElem?_cons_succ, dR.eq_20, Mem.cell, Mem.row, wmA]
  have key : AbC Tryz.prog w0 66 [.int .i64 i, .int .i64 (B : Int)] m fun v m' => v = .string ⟨⟨numS B i⟩⟩ ∧ Old m m' := by
    rcases hB with rfl | rfl | rfl
    · exact c_fmtP hp (k := 3) rfl (by omega) (by omega) hi pow8 tz8 fun m' ho => ⟨rfl, ho⟩
    · exact c_fmt10 ht hi ⟨rfl, Old.refl m⟩
    · exact c_fmtP hp (k := 4) rfl (by omega) (by omega) hi pow16 tz16 fun m' ho => ⟨rfl, ho⟩
  refine key.mono ?_
  rintro v m' ⟨rfl, ho⟩
  simp -implicitDefEqProofs (disch := first | assumption | (simp only [wnA]; done) | (simp only [wnA]; omega) | omega | fail) [wkA, retV, stabOk, dC, ev, fillD, pickCells, putAt, bnd, slD, List.getElem?_cons_zero, List.getElem?_cons_succ, dR.eq_20, Mem.cell, Mem.row, wmA]
  exact hq m' ho
theorem c_Itoa {w0 : World} {m : Mem} {i : Int} {Q : Value → Mem → Prop} (ht : Ten w0) (hi : -9223372036854775808 ≤ i ∧ i ≤ 9223372036854775807) (hq : Q (.string ⟨⟨numS 10 i⟩⟩) m) : AbC Tryz.prog w0 43 [.int .i64 i] m Q := by
  refine AbC_fn ok43 (by simp) ?_
  simp -implicitDefEqProofs (disch := first | assumption | (simp only [wnA]; done) | (simp only [wnA]; omega) | omega | fail) [rc43, ro43, wkA, retV, stabOk, dC, ev, fillD, pickCells, putAt, bnd, slD, List.getElem?_cons_zero, List.getElem?_cons_succ, dR.eq_20, Mem.cell, Mem.row, wmA]
  refine AbC_fn ok65 (by simp) ?_
  simp -implicitDefEqProofs (disch := first | assumption | (simp only [wnA]; done) | (simp only [wnA]; omega) | omega | fail) [rc65, ro65, wkA, retV, stabOk, dC, ev, fillD, pickCells, putAt, bnd, slD, List.getElem?_cons_zero, List.getElem?_cons_succ, dR.eq_20, Mem.cell, Mem.row, wmA]
  refine c_fmt10 ht hi ?_
  simp -implicitDefEqProofs (disch := first | assumption | (simp only [wnA]; done) | (simp only [wnA]; omega) | omega | fail) [wkA, retV, stabOk, dC, ev, fillD, pickCells, putAt, bnd, slD, List.getElem?_cons_zero, List.getElem?_cons_succ, dR.eq_20, Mem.cell, Mem.row, wmA]
  exact hq
/-- How long a number's text is. -/
theorem numS_len {B : Nat} (hB : 2 ≤ B) {i : Int} {L : Nat} (hi : i.natAbs < B ^ L) (hL : 1 ≤ L) : (numS B i).length ≤ L + 1 := by
  have := digs_len hB L _ hi
  unfold numS sgn
  split <;> simp <;> omega
theorem numS_pos {B : Nat} {i : Int} : 1 ≤ (numS B i).length := by
  have := digs_pos B i.natAbs
  unfold numS
  simp; omega
end Go.Proofs.YthmhappejchilaaGreatDoor.Ab

set_option linter.unusedVariables false
set_option linter.unusedSimpArgs false
namespace Go.Proofs.YthmhappejchilaaGreatDoor.Ab
open Go Go.RowKit
set_option maxHeartbeats 4000000
set_option maxRecDepth 100000
/-- A builder in block i that holds these bytes: it and its row lie behind what was there. -/
def Bld (base m : Mem) (i : Nat) (bs : List UInt8) : Prop := Old base m ∧ base.next ≤ i ∧ i < m.next ∧ ∃ pa ob, m.get i = .own [pa, slV ob bs.length 1] 117 ∧ (pa = .pointer none ∨ pa = .pointer (some ⟨i, 0, none⟩)) ∧
  SlO m 5 1 ob (bs.map byteV) bs.length ∧ (bs = [] → ob = none) ∧ ∀ b, ob = some b → base.next ≤ b ∧ b ≠ i
theorem Bld.new {base m : Mem} (h : Old base m) : Bld base (m.push (.own [.pointer none, .slice none 0 0] 117)) m.next [] :=
  ⟨h.push _, h.1, by simp, .pointer none, none, by simp [slV], .inl rfl, ⟨rfl, rfl⟩, fun _ => rfl, fun b hb => by cases hb⟩
theorem c_copyCheck {w0 : World} {m : Mem} {i : Nat} {pa v : Value} {Q : Value → Mem → Prop} (hi : m.get i = .own [pa, v] 117) (hpa : pa = .pointer none ∨ pa = .pointer (some ⟨i, 0, none⟩))
    (hq : ∀ m', m'.next = m.next → m'.get i = .own [.pointer (some ⟨i, 0, none⟩), v] 117 → (∀ k, k ≠ i → m'.get k = m.get k) → Q (.tuple ⟨[]⟩) m') :
    AbC Tryz.prog w0 100 [.pointer (some ⟨i, 0, none⟩)] m Q := by
  refine AbC_fn ok100 (by simp) ?_
  rcases hpa with rfl | rfl
  · simp -implicitDefEqProofs (disch := first | assumption | (simp only [wnA]; done) | (simp only [wnA]; omega) | omega | fail) [rc100, ro100, wkA, retV, stabOk, dC, ev, fillD, pickCells, putAt, bnd, slD, List.getElem?_cons_zero, List.getElem?_cons_succ, dR.eq_20, Mem.cell, Mem.row, wmA, hi]
    refine x_same xis121 ?_
    simp -implicitDefEqProofs (disch := first | assumption | (simp only [wnA]; done) | (simp only [wnA]; omega) | omega | fail) [wkA, retV, stabOk, dC, ev, fillD, pickCells, putAt, bnd, slD, List.getElem?_cons_zero, List.getElem?_cons_succ, dR.eq_20, Mem.cell, Mem.row, wmA, hi]
    refine SK_st (i := i) (o := 0) (by simp [wkA, retV, stabOk, dC, ev, fillD, pickCells, putAt, bnd, slD, List.getElem?_cons_zero, List.getElem?_cons_succ, dR.eq_20]) (e := 117) hi (by simp) (by simp [wkA, retV, stabOk, dC, ev, fillD, pickCells, putAt, bnd, slD, List.getElem?_cons_zero, List.getElem?_cons_succ, dR.eq_20]) (by simp [wkA, retV, stabOk, dC, ev, fillD, pickCells, putAt, bnd, slD, List.getElem?_cons_zero, List.getElem?_cons_succ, dR.eq_20, oneC]) ?_
    simp -implicitDefEqProofs (disch := first | assumption | (simp only [wnA]; done) | (simp only [wnA]; omega) | omega | fail) [wkA, retV, stabOk, dC, ev, fillD, pickCells, putAt, bnd, slD, List.getElem?_cons_zero, List.getElem?_cons_succ, dR.eq_20, Mem.cell, Mem.row, wmA]
    exact hq _ rfl (by simp) fun k hk => Mem.set_other _ _ hk
  · simp -implicitDefEqProofs (disch := first | assumption | (simp only [wnA]; done) | (simp only [wnA]; omega) | omega | fail) [rc100, ro100, wkA, retV, stabOk, dC, ev, fillD, pickCells, putAt, bnd, slD, List.getElem?_cons_zero, List.getElem?_cons_succ, dR.eq_20, Mem.cell, Mem.row, wmA, hi]
    exact hq m rfl hi fun _ _ => rfl
/-- More bytes lie behind. -/
theorem Bld.more {base m m1 : Mem} {i : Nat} {bs cs : List UInt8} {pa : Value} {ob : Option Nat} (h : Bld base m i bs) (hn : m1.next = m.next) (hi : m1.get i = .own [.pointer (some ⟨i, 0, none⟩), slV ob bs.length 1] 117)
    (ho : ∀ k, k ≠ i → m1.get k = m.get k) (hob : ∀ b, ob = some b → base.next ≤ b ∧ b ≠ i) (hcs : cs ≠ []) :
    Bld base (((m1.kill ob).push (.own (bs.map byteV ++ cs.map byteV) 5)).set i (.own [.pointer (some ⟨i, 0, none⟩), slV (some m1.next) (bs.length + cs.length) 1] 117)) i (bs ++ cs) := by
  obtain ⟨h1, h2, h3, pa', ob', h4, h5, h6, hz, h7⟩ := h
  have hold : Old base m1 := ⟨by rw [hn]; exact h1.1, fun k hk => by rw [ho k (by omega), h1.2 k hk]⟩
  refine ⟨((hold.kill fun b hb => (hob b hb).1).push _).set h2 _, h2, by simp [Mem.kill_nxt]; omega, _, some m1.next, by simp, .inr rfl, ⟨by simp, ?_⟩, fun hb => absurd (List.append_eq_nil_iff.1 hb).2 hcs, fun b hb => by cases hb; exact ⟨by rw [hn]; exact Nat.le_trans h2 (by omega), by omega⟩⟩
  refine ⟨?_, by simp [Mem.kill_nxt]⟩
  rw [Mem.set_other _ _ (by omega)]
  simp [Mem.push_get, Mem.kill_nxt]
theorem bytesOf_map : ∀ (l : List UInt8), bytesOf (l.map byteV) = some l
  | [] => rfl
  | b :: l => by
    show (bytesOf (l.map byteV)).map (UInt8.ofNat ((b.toNat : Int).toNat) :: ·) = _
    rw [bytesOf_map l]
    simp
theorem c_BString {w0 : World} {base m : Mem} {i : Nat} {bs : List UInt8} {Q : Value → Mem → Prop} (h : Bld base m i bs) (hl : bs.length ≤ 140737488355328) (hq : ∀ m', Old base m' → Q (.string ⟨⟨bs⟩⟩) m') :
    AbC Tryz.prog w0 69 [.pointer (some ⟨i, 0, none⟩)] m Q := by
  refine AbC_fn ok69 (by simp) ?_
  obtain ⟨h1, h2, h3, pa, ob, h4, h5, h6, hz, h7⟩ := h
  cases ob with
  | none =>
    have h0 : bs.length = 0 := h6.2
    have h00 : bs = [] := List.length_eq_zero_iff.1 h0
    subst h00
    simp only [slV] at h4
    simp -implicitDefEqProofs (disch := first | assumption | (simp only [wnA]; done) | (simp only [wnA]; omega) | omega | fail) [rc69, ro69, wkA, retV, stabOk, dC, ev, fillD, pickCells, putAt, bnd, slD, List.getElem?_cons_zero, List.getElem?_cons_succ, dR.eq_20, Mem.cell, Mem.row, wmA, h4]
    simp only [SK, dE, ev, upd_at]
    simp -implicitDefEqProofs (disch := first | assumption | (simp only [wnA]; done) | (simp only [wnA]; omega) | omega | fail) [wkA, retV, stabOk, dC, ev, fillD, pickCells, putAt, bnd, slD, List.getElem?_cons_zero, List.getElem?_cons_succ, dR.eq_20, Mem.cell, Mem.row, wmA]
    exact hq _ h1
  | some b =>
    have hne : bs ≠ [] := fun e => by have := hz e; cases this
    have hpos : 0 < bs.length := List.length_pos_iff.2 hne
    obtain ⟨q1, q2, q3⟩ := h6
    obtain ⟨r1, r2⟩ := h7 b rfl
    rw [slV_some] at h4
    simp -implicitDefEqProofs (disch := first | assumption | (simp only [wnA]; done) | (simp only [wnA]; omega) | omega | fail) [rc69, ro69, wkA, retV, stabOk, dC, ev, fillD, pickCells, putAt, bnd, slD, List.getElem?_cons_zero, List.getElem?_cons_succ, dR.eq_20, Mem.cell, Mem.row, wmA, h4, hpos]
    have hrow : (List.map byteV bs).take bs.length = bs.map byteV := by
      rw [List.take_of_length_le (by simp)]
    have hk : ¬ ((bs.length : Int) = 0) := by omega
    have hk2 : (0 : Int) < bs.length ∧ (bs.length : Int) ≤ 9223372036854775807 := by omega
    simp only [SK, dE, ev, upd_at]
    simp -implicitDefEqProofs (disch := first | assumption | (simp only [wnA]; done) | (simp only [wnA]; omega) | omega | fail) [q2, hk, hk2, hrow, bytesOf_map, hne, hpos]
    simp -implicitDefEqProofs (disch := first | assumption | (simp only [wnA]; done) | (simp only [wnA]; omega) | omega | fail) [wkA, retV, stabOk, dC, ev, fillD, pickCells, putAt, bnd, slD, List.getElem?_cons_zero, List.getElem?_cons_succ, dR.eq_20, Mem.cell, Mem.row, wmA]
    exact hq _ (h1.set r1 _)
end Go.Proofs.YthmhappejchilaaGreatDoor.Ab

set_option linter.unusedVariables false
set_option linter.unusedSimpArgs false
namespace Go.Proofs.YthmhappejchilaaGreatDoor.Ab
open Go Go.RowKit
set_option maxHeartbeats 4000000
set_option maxRecDepth 100000
/-- A builder that may have an empty row. -/
def BldG (base m : Mem) (i : Nat) (bs : List UInt8) : Prop := Old base m ∧ base.next ≤ i ∧ i < m.next ∧ ∃ pa ob, m.get i = .own [pa, slV ob bs.length 1] 117 ∧ (pa = .pointer none ∨ pa = .pointer (some ⟨i, 0, none⟩)) ∧
  SlO m 5 1 ob (bs.map byteV) bs.length ∧ ∀ b, ob = some b → base.next ≤ b ∧ b ≠ i
theorem Bld.g {base m : Mem} {i : Nat} {bs : List UInt8} (h : Bld base m i bs) : BldG base m i bs :=
  let ⟨a, b, c, pa, ob, d, e, f, _, g⟩ := h; ⟨a, b, c, pa, ob, d, e, f, g⟩
theorem c_WriteStringG {w0 : World} {base m : Mem} {i : Nat} {bs : List UInt8} {s : ByteArray} {Q : Value → Mem → Prop} (h : BldG base m i bs) (hl : bs.length + s.size ≤ 140737488355328) (hq : ∀ m', BldG base m' i (bs ++ s.data.toList) → Q (.tuple ⟨[.int .i64 s.size, .nilIface]⟩) m') :
    AbC Tryz.prog w0 68 [.pointer (some ⟨i, 0, none⟩), .string s] m Q := by
  refine AbC_fn ok68 (by simp) ?_
  obtain ⟨h1, h2, h3, pa, ob, h4, h5, h6, h7⟩ := h
  simp -implicitDefEqProofs (disch := first | assumption | (simp only [wnA]; done) | (simp only [wnA]; omega) | omega | fail) [rc68, ro68, wkA, retV, stabOk, dC, ev, fillD, pickCells, putAt, bnd, slD, List.getElem?_cons_zero, List.getElem?_cons_succ, dR_sl, Mem.cell, Mem.row, wmA]
  refine c_copyCheck h4 h5 fun m1 n1 g1 o1 => ?_
  have hs1 : SlO m1 5 1 ob (bs.map byteV) bs.length := h6.keep (Nat.le_of_eq n1.symm) fun k hk => o1 _ (h7 k hk).2
  have hold : Old base m1 := ⟨by have := h1.1; omega, fun k hk => by rw [o1 _ (by omega), h1.2 k hk]⟩
  have hsz : s.data.toList.length = s.size := by simp
  simp -implicitDefEqProofs (disch := first | assumption | (simp only [wnA]; done) | (simp only [wnA]; omega) | omega | fail) [wkA, retV, stabOk, dC, ev, fillD, pickCells, putAt, bnd, slD, List.getElem?_cons_zero, List.getElem?_cons_succ, dR_sl, Mem.cell, Mem.row, wmA, g1]
  have hoi : ob ≠ some i := fun e => (h7 i e).2 rfl
  by_cases h00 : s.size = 0
  · have he : s.data.toList = [] := List.length_eq_zero_iff.1 (by omega)
    have hx : ∀ (ts : Fr) (R : Value → Mem → Prop), ts 12 = slV ob bs.length 1 → ts 13 = .string s → R (slV ob bs.length 1) m1 → SK Tryz.prog w0 (.e (.app 5 1 1 (.tmp 12) (.tmp 13))) ts m1 R := by
      intro ts R e1 e2 hR
      simp only [SK, dE, ev, e1, e2, elemsV, if_true, lenV_str, h00]
      cases ob with
      | none =>
        have := hs1.2
        simp only [slV] at hR ⊢
        exact hR
      | some b => exact hR
    refine hx _ _ (by simp) (by simp) ?_
    simp -implicitDefEqProofs (disch := first | assumption | (simp only [wnA]; done) | (simp only [wnA]; omega) | omega | fail) [wkA, retV, stabOk, dC, ev, fillD, pickCells, putAt, bnd, slD, List.getElem?_cons_zero, List.getElem?_cons_succ, dR_sl, Mem.cell, Mem.row, wmA, g1]
    refine SK_st (i := i) (o := 1) (by simp [wkA, retV, stabOk, dC, ev, fillD, pickCells, putAt, bnd, slD, List.getElem?_cons_zero, List.getElem?_cons_succ, dR_sl]) (e := 117) (cs := [.pointer (some ⟨i, 0, none⟩), slV ob bs.length 1]) g1 (by simp) (by simp [wkA, retV, stabOk, dC, ev, fillD, pickCells, putAt, bnd, slD, List.getElem?_cons_zero, List.getElem?_cons_succ, dR_sl]) (by simp [wkA, retV, stabOk, dC, ev, fillD, pickCells, putAt, bnd, slD, List.getElem?_cons_zero, List.getElem?_cons_succ, dR_sl]) ?_
    simp -implicitDefEqProofs (disch := first | assumption | (simp only [wnA]; done) | (simp only [wnA]; omega) | omega | fail) [wkA, retV, stabOk, dC, ev, fillD, pickCells, putAt, bnd, slD, List.getElem?_cons_zero, List.getElem?_cons_succ, dR_sl, Mem.cell, Mem.row, wmA]
    refine hq _ ?_
    rw [he, List.append_nil]
    exact ⟨hold.set h2 _, h2, by simp; omega, _, ob, by simp, .inr rfl, hs1.set hoi _, h7⟩
  · refine SK_ap hs1 (by simp [wkA, retV, stabOk, dC, ev, fillD, pickCells, putAt, bnd, slD, List.getElem?_cons_zero, List.getElem?_cons_succ, dR_sl]) (ys := s.data.toList.map byteV) (by simp -implicitDefEqProofs (disch := first | assumption | (simp only [wnA]; done) | (simp only [wnA]; omega) | omega | fail) [wkA, retV, stabOk, dC, ev, fillD, pickCells, putAt, bnd, slD, List.getElem?_cons_zero, List.getElem?_cons_succ, dR_sl, elemsV, Mem.cell, Mem.row, wmA]) (k := s.size) (by simp [wkA, retV, stabOk, dC, ev, fillD, pickCells, putAt, bnd, slD, List.getElem?_cons_zero, List.getElem?_cons_succ, dR_sl]) (by omega) (byteV_oneC _) (by omega) (by simp only [maxLen]; omega) (by simp) ?_
    simp -implicitDefEqProofs (disch := first | assumption | (simp only [wnA]; done) | (simp only [wnA]; omega) | omega | fail) [wkA, retV, stabOk, dC, ev, fillD, pickCells, putAt, bnd, slD, List.getElem?_cons_zero, List.getElem?_cons_succ, dR_sl, Mem.cell, Mem.row, wmA, g1]
    refine SK_st (i := i) (o := 1) (by simp [wkA, retV, stabOk, dC, ev, fillD, pickCells, putAt, bnd, slD, List.getElem?_cons_zero, List.getElem?_cons_succ, dR_sl]) (e := 117) (cs := [.pointer (some ⟨i, 0, none⟩), slV ob bs.length 1]) ?_ (by simp) (by simp [wkA, retV, stabOk, dC, ev, fillD, pickCells, putAt, bnd, slD, List.getElem?_cons_zero, List.getElem?_cons_succ, dR_sl]) (by simp [wkA, retV, stabOk, dC, ev, fillD, pickCells, putAt, bnd, slD, List.getElem?_cons_zero, List.getElem?_cons_succ, dR_sl]) ?_
    · rw [Mem.push_old _ _ (by simp [Mem.kill_nxt]; omega), Mem.kill_other _ hoi]
      exact g1
    simp -implicitDefEqProofs (disch := first | assumption | (simp only [wnA]; done) | (simp only [wnA]; omega) | omega | fail) [wkA, retV, stabOk, dC, ev, fillD, pickCells, putAt, bnd, slD, List.getElem?_cons_zero, List.getElem?_cons_succ, dR_sl, Mem.cell, Mem.row, wmA]
    refine hq _ ?_
    refine ⟨((hold.kill fun b hb => (h7 b hb).1).push _).set h2 _, h2, by simp [Mem.kill_nxt]; omega, _, some m1.next, by simp, .inr rfl, ⟨by simp, ?_⟩, fun b hb => by cases hb; exact ⟨by rw [n1]; exact h1.1, by omega⟩⟩
    refine ⟨?_, by simp [Mem.kill_nxt]⟩
    rw [Mem.set_other _ _ (by omega)]
    simp [Mem.push_get, Mem.kill_nxt]
theorem c_BStringG {w0 : World} {base m : Mem} {i : Nat} {bs : List UInt8} {Q : Value → Mem → Prop} (h : BldG base m i bs) (hne : bs ≠ []) (hl : bs.length ≤ 140737488355328) (hq : ∀ m', Old base m' → Q (.string ⟨⟨bs⟩⟩) m') :
    AbC Tryz.prog w0 69 [.pointer (some ⟨i, 0, none⟩)] m Q := by
  obtain ⟨h1, h2, h3, pa, ob, h4, h5, h6, h7⟩ := h
  exact c_BString ⟨h1, h2, h3, pa, ob, h4, h5, h6, fun e => absurd e hne, h7⟩ hl hq
theorem c_Grow {w0 : World} {base m : Mem} {i n : Nat} {Q : Value → Mem → Prop} (h : Bld base m i []) (hn : n ≤ 140737488355328) (hq : ∀ m', BldG base m' i [] → Q (.tuple ⟨[]⟩) m') :
    AbC Tryz.prog w0 67 [.pointer (some ⟨i, 0, none⟩), .int .i64 (n : Int)] m Q := by
  refine AbC_fn ok67 (by simp) ?_
  obtain ⟨h1, h2, h3, pa, ob, h4, h5, h6, hz, h7⟩ := h
  have hob := hz rfl
  subst hob
  simp only [List.length_nil, slV] at h4
  have f1 : (0 : Int) ≤ (n : Int) := by omega
  simp -implicitDefEqProofs (disch := first | assumption | (simp only [wnA]; done) | (simp only [wnA]; omega) | omega | fail) [rc67, ro67, wkA, retV, stabOk, dC, ev, fillD, pickCells, putAt, bnd, slD, List.getElem?_cons_zero, List.getElem?_cons_succ, dR_sl, Mem.cell, Mem.row, wmA]
  refine c_copyCheck h4 h5 fun m1 n1 g1 o1 => ?_
  have hold : Old base m1 := ⟨by have := h1.1; omega, fun k hk => by rw [o1 _ (by omega), h1.2 k hk]⟩
  simp -implicitDefEqProofs (disch := first | assumption | (simp only [wnA]; done) | (simp only [wnA]; omega) | omega | fail) [wkA, retV, stabOk, dC, ev, fillD, pickCells, putAt, bnd, slD, List.getElem?_cons_zero, List.getElem?_cons_succ, dR_sl, Mem.cell, Mem.row, wmA, g1, ltF f1, rc67_0]
  by_cases h0 : n = 0
  · subst h0
    simp -implicitDefEqProofs (disch := first | assumption | (simp only [wnA]; done) | (simp only [wnA]; omega) | omega | fail) [wkA, retV, stabOk, dC, ev, fillD, pickCells, putAt, bnd, slD, List.getElem?_cons_zero, List.getElem?_cons_succ, dR_sl, Mem.cell, Mem.row, wmA, g1]
    exact hq m1 ⟨hold, h2, by omega, _, none, g1, .inr rfl, ⟨rfl, rfl⟩, fun b hb => by cases hb⟩
  · have f2 : (0 : Int) < (n : Int) := by omega
    have f3 : 0 < n := by omega
    have e0 : IntKind.i64.wrap 0 = 0 := w64 (by omega)
    have en : IntKind.i64.wrap (n : Int) = (n : Int) := w64 (by omega)
    simp -implicitDefEqProofs (disch := first | assumption | (simp only [wnA]; done) | (simp only [wnA]; omega) | omega | fail) [wkA, retV, stabOk, dC, ev, fillD, pickCells, putAt, bnd, slD, List.getElem?_cons_zero, List.getElem?_cons_succ, dR_sl, Mem.cell, Mem.row, wmA, g1, e0, ltT f2, f3]
    refine AbC_fn ok101 (by simp) ?_
    simp -implicitDefEqProofs (disch := first | assumption | (simp only [wnA]; done) | (simp only [wnA]; omega) | omega | fail) [rc101, ro101, wkA, retV, stabOk, dC, ev, fillD, pickCells, putAt, bnd, slD, List.getElem?_cons_zero, List.getElem?_cons_succ, dR_sl, Mem.cell, Mem.row, wmA, g1, e0, en]
    refine x_mnz xis122 hn ?_
    have hin : i ≠ m1.next := by omega
    have hsl0 : slW 1 (.slice (some ⟨m1.next, 0, none⟩) n 1) none (some (.int .i64 0)) = some (.slice (some ⟨m1.next, 0, none⟩) 0 1) := by simp [slW, dR, ev, bnd, slD]
    simp -implicitDefEqProofs (disch := first | assumption | (simp only [wnA]; done) | (simp only [wnA]; omega) | omega | fail) [wkA, retV, stabOk, dC, ev, fillD, pickCells, putAt, bnd, slD, List.getElem?_cons_zero, List.getElem?_cons_succ, dR_sl, Mem.cell, Mem.row, wmA, g1, e0, en, hsl0]
    simp only [SK, dE, ev, upd_at]
    simp -implicitDefEqProofs (disch := first | assumption | (simp only [wnA]; done) | (simp only [wnA]; omega) | omega | fail) [wkA, retV, stabOk, dC, ev, fillD, pickCells, putAt, bnd, slD, List.getElem?_cons_zero, List.getElem?_cons_succ, dR_sl, Mem.cell, Mem.row, wmA, elemsV, g1]
    refine SK_st (i := i) (o := 1) (by simp [wkA, retV, stabOk, dC, ev, fillD, pickCells, putAt, bnd, slD, List.getElem?_cons_zero, List.getElem?_cons_succ, dR_sl]) (e := 117) (cs := [.pointer (some ⟨i, 0, none⟩), .slice none 0 0]) ?_ (by simp) (by simp [wkA, retV, stabOk, dC, ev, fillD, pickCells, putAt, bnd, slD, List.getElem?_cons_zero, List.getElem?_cons_succ, dR_sl]) (by simp [wkA, retV, stabOk, dC, ev, fillD, pickCells, putAt, bnd, slD, List.getElem?_cons_zero, List.getElem?_cons_succ, dR_sl, oneC]) ?_
    · rw [Mem.set_other _ _ hin, Mem.push_old _ _ (by omega)]; exact g1
    simp -implicitDefEqProofs (disch := first | assumption | (simp only [wnA]; done) | (simp only [wnA]; omega) | omega | fail) [wkA, retV, stabOk, dC, ev, fillD, pickCells, putAt, bnd, slD, List.getElem?_cons_zero, List.getElem?_cons_succ, dR_sl, Mem.cell, Mem.row, wmA]
    refine hq _ ?_
    refine ⟨((hold.push _).set (by rw [n1]; exact h1.1) _).set h2 _, h2, by simp; omega, _, some m1.next, by simp [slV], .inr rfl, ⟨rfl, ?_, by simp⟩, fun b hb => by cases hb; exact ⟨by rw [n1]; exact h1.1, by omega⟩⟩
    rw [Mem.set_other _ _ (by omega)]
    simp
/-- Texts, one behind the other, with a text between. -/
def joinL (sep : List UInt8) : List ByteArray → List UInt8
  | [] => []
  | x :: r => x.data.toList ++ r.flatMap fun y => sep ++ y.data.toList
/-- How many bytes texts have. -/
def totL (xs : List ByteArray) : Nat := (xs.map ByteArray.size).sum
theorem totL_take (xs : List ByteArray) (j : Nat) : totL (xs.take j) ≤ totL xs := by
  induction xs generalizing j with
  | nil => simp [totL]
  | cons x xs ih =>
    cases j with
    | zero => simp [totL]
    | succ j => have := ih j; simp only [totL, List.take_succ_cons, List.map_cons, List.sum_cons] at this ⊢; omega
theorem totL_succ {xs : List ByteArray} {j : Nat} (h : j < xs.length) : totL (xs.take (j + 1)) = totL (xs.take j) + xs[j].size := by
  unfold totL
  rw [List.take_succ_eq_append_getElem h, List.map_append, List.sum_append]; simp
theorem flat_sep_len (sep : List UInt8) (xs : List ByteArray) : (xs.flatMap fun y => sep ++ y.data.toList).length = sep.length * xs.length + totL xs := by
  induction xs with
  | nil => simp [totL]
  | cons x xs ih => simp only [List.flatMap_cons, List.length_append, ih, totL, List.map_cons, List.sum_cons, List.length_cons, Nat.mul_add, ByteArray.size, Array.length_toList]; omega
theorem c_Join {w0 : World} {m : Mem} {v : Value} {xs : List ByteArray} {sep : ByteArray} {Q : Value → Mem → Prop} (hv : SlR m 1 v (xs.map .string) xs.length) (hvb : ∀ b, blk v = some b → b < m.next) (h2 : 2 ≤ xs.length) (hs : 0 < sep.size) (hl : (sep.size + 1) * xs.length + totL xs ≤ 140737488355328)
    (hq : ∀ m', Old m m' → Q (.string ⟨⟨joinL sep.data.toList xs⟩⟩) m') : AbC Tryz.prog w0 45 [v, .string sep] m Q := by
  refine AbC_fn ok45 (by simp) ?_
  have k0 : (xs.length : Int) ≠ 0 := by omega
  have k1 : (xs.length : Int) ≠ 1 := by omega
  have hsx : (sep.size + 1) * xs.length = sep.size * xs.length + xs.length := by rw [Nat.add_mul, Nat.one_mul]
  have hmul : sep.size * (xs.length - 1) + sep.size = sep.size * xs.length := by
    obtain ⟨n, hn⟩ : ∃ n, xs.length = n + 1 := ⟨xs.length - 1, by omega⟩
    rw [hn, Nat.add_sub_cancel, Nat.mul_add, Nat.mul_one]
  have hsl : sep.size ≤ sep.size * xs.length := Nat.le_mul_of_pos_right _ (by omega)
  have e1 : IntKind.i64.wrap ((xs.length : Int) - 1) = ((xs.length - 1 : Nat) : Int) := by rw [w64 (by omega)]; omega
  have q1 : dBin .quo (.int .i64 9223372036854775807) (.int .i64 ((xs.length - 1 : Nat) : Int)) = some (.int .i64 ((9223372036854775807 / (xs.length - 1) : Nat) : Int)) := by
    rw [dBin_quo (by omega)]
    have : (9223372036854775807 : Int).tdiv ((xs.length - 1 : Nat) : Int) = ((9223372036854775807 / (xs.length - 1) : Nat) : Int) := by
      rw [Int.tdiv_eq_ediv_of_nonneg (by omega)]; rfl
    have h9 := Nat.div_le_self 9223372036854775807 (xs.length - 1)
    rw [this]
    generalize 9223372036854775807 / (xs.length - 1) = D at *
    rw [w64 (by omega)]
  have q2 : (sep.size : Int) < ((9223372036854775807 / (xs.length - 1) : Nat) : Int) := by
    have : sep.size + 1 ≤ 9223372036854775807 / (xs.length - 1) := by
      rw [Nat.le_div_iff_mul_le (by omega), Nat.add_mul, Nat.one_mul]; omega
    omega
  have q3 : IntKind.i64.wrap ((sep.size : Int) * ((xs.length - 1 : Nat) : Int)) = ((sep.size * (xs.length - 1) : Nat) : Int) := by
    have : (sep.size : Int) * ((xs.length - 1 : Nat) : Int) = ((sep.size * (xs.length - 1) : Nat) : Int) := by simp
    rw [this]; exact w64 (by omega)
  have q4 : IntKind.i64.wrap ((sep.size * (xs.length - 1) : Nat) : Int) = ((sep.size * (xs.length - 1) : Nat) : Int) := w64 (by omega)
  have hs' : (0 : Int) < (sep.size : Int) := by omega
  generalize hP : sep.size * (xs.length - 1) = P at *
  generalize hD : 9223372036854775807 / (xs.length - 1) = D at *
  generalize hN1 : xs.length - 1 = N1 at *
  have q5 : ¬ D ≤ sep.size := by omega
  have q6 : (D ≤ sep.size) = False := eq_false q5
  simp -implicitDefEqProofs (disch := first | assumption | (simp only [wnA]; done) | (simp only [wnA]; omega) | omega | fail) [rc45, ro45, wkA, retV, stabOk, dC, ev, fillD, pickCells, putAt, bnd, slD, List.getElem?_cons_zero, List.getElem?_cons_succ, dR_sl, Mem.cell, Mem.row, wmA, hv.slen, beqF k0, beqF k1, rc45_7, gtT hs', hs, e1, q1, q6, q3, q4, decide_false, rc45_6]
  have hPt : P + totL xs ≤ 140737488355328 := by omega
  refine LoopW_of (fun k ts m' => ∃ j, j + k = xs.length ∧ m' = m ∧ ts 0 = v ∧ ts 1 = .string sep ∧ ts 5 = .int .i64 ((P + totL (xs.take j) : Nat) : Int) ∧ ts 39 = v ∧ ts 40 = .int .i64 (xs.length : Nat) ∧ ts 41 = .int .i64 (j : Nat)) xs.length ?_ ?_
  · exact ⟨0, by omega, rfl, by simp [frA_at], by simp [frA_at], by simp [totL], by simp [frA_at], by simp, by simp⟩
  · rintro k ts m1 K ⟨j, hj, rfl, t0, t1, t5, t39, t40, t41⟩ hK
    simp -implicitDefEqProofs (disch := first | assumption | (simp only [wnA]; done) | (simp only [wnA]; omega) | omega | fail) [rc45_1, wkA, retV, stabOk, dC, ev, fillD, pickCells, putAt, bnd, slD, List.getElem?_cons_zero, List.getElem?_cons_succ, dR_sl, Mem.cell, Mem.row, wmA, t40, t41]
    by_cases hjl : j < xs.length
    · obtain ⟨bi, bo, L, hvv, hL, hLl, -, hLc⟩ := hv.at hjl
      have hc := hLc 0 (by omega)
      simp only [Nat.mul_one, Nat.add_zero, List.getElem?_map, List.getElem?_eq_getElem hjl, Option.map_some] at hc
      obtain ⟨x, hx⟩ : ∃ x, xs[j] = x := ⟨_, rfl⟩
      have hts := totL_succ hjl
      have htk := totL_take xs (j + 1)
      rw [hx] at hc hts
      rw [hvv] at t39
      obtain ⟨hlt', hc'⟩ := List.getElem?_eq_some_iff.1 hc
      have hjw : IntKind.i64.wrap ((j : Int) + 1) = ((j + 1 : Nat) : Int) := by rw [w64 (by omega)]; omega
      have hsub : IntKind.i64.wrap (9223372036854775807 - ((P + totL (xs.take j) : Nat) : Int)) = 9223372036854775807 - ((P + totL (xs.take j) : Nat) : Int) := w64 (by omega)
      have hgt : (x.size : Int) ≤ 9223372036854775807 - ((P + totL (xs.take j) : Nat) : Int) := by omega
      have hadd : IntKind.i64.wrap (((P + totL (xs.take j) : Nat) : Int) + (x.size : Int)) = ((P + totL (xs.take (j + 1)) : Nat) : Int) := by rw [w64 (by omega)]; omega
      generalize hT : P + totL (xs.take j) = T at *
      simp -implicitDefEqProofs (disch := first | assumption | (simp only [wnA]; done) | (simp only [wnA]; omega) | omega | fail) [hjl, rc45_0, wkA, retV, stabOk, dC, ev, fillD, pickCells, putAt, bnd, slD, List.getElem?_cons_zero, List.getElem?_cons_succ, dR_sl, Mem.cell, Mem.row, wmA, t5, t39, t40, t41, sidx_at, hL, hc, hc', hsub, gtF hgt, hadd, hjw]
      exact hK (k - 1) _ _ (by omega) ⟨j + 1, by omega, rfl, by simp [t0], by simp [t1], by simp, by simp [t39, hvv], by simp [t40], by simp⟩
    · have hjj : j = xs.length := by omega
      subst hjj
      rw [List.take_length] at t5
      simp -implicitDefEqProofs (disch := first | assumption | (simp only [wnA]; done) | (simp only [wnA]; omega) | omega | fail) [hjl, rc45_5, wkA, retV, stabOk, dC, ev, fillD, pickCells, putAt, bnd, slD, List.getElem?_cons_zero, List.getElem?_cons_succ, dR_sl, Mem.cell, Mem.row, wmA, t5]
      refine c_Grow (Bld.new (Old.refl m1)) hPt fun m2 hb => ?_
      have hv2 : SlR m2 1 v (xs.map .string) xs.length := hv.keep fun b h => hb.1.2 b (hvb b h)
      obtain ⟨bi, bo, L, hvv, hL, hLl, -, hLc⟩ := hv2.at (j := 0) (by omega)
      have hc := hLc 0 (by omega)
      have h0l : 0 < xs.length := by omega
      simp only [Nat.mul_one, Nat.add_zero, List.getElem?_map, List.getElem?_eq_getElem h0l, Option.map_some] at hc
      obtain ⟨x, hx⟩ : ∃ x, xs[0] = x := ⟨_, rfl⟩
      obtain ⟨ys, hys⟩ : ∃ ys, xs = x :: ys := by
        cases xs with
        | nil => simp at h0l
        | cons a r => exact ⟨r, by simp at hx; rw [hx]⟩
      rw [hx] at hc
      obtain ⟨hlt', hc'⟩ := List.getElem?_eq_some_iff.1 hc
      have hs0 : sidx 1 v (.int .i64 0) = some (.pointer (some ⟨bi, bo, none⟩)) := by
        have := sidx_at (b := bi) (o := bo) (n := xs.length) (c := 1) (j := 0) (sz := 1) (k := .i64) h0l
        simpa [hvv] using this
      have hlen : xs.length = ys.length + 1 := by rw [hys]; rfl
      have htot : totL xs = x.size + totL ys := by rw [hys]; simp [totL]
      have hJ : joinL sep.data.toList xs = x.data.toList ++ ys.flatMap fun y => sep.data.toList ++ y.data.toList := by rw [hys]; rfl
      have hsz : x.data.toList.length = x.size := by simp
      simp -implicitDefEqProofs (disch := first | assumption | (simp only [wnA]; done) | (simp only [wnA]; omega) | omega | fail) [wkA, retV, stabOk, dC, ev, fillD, pickCells, putAt, bnd, slD, List.getElem?_cons_zero, List.getElem?_cons_succ, dR_sl, Mem.cell, Mem.row, wmA, t0, hs0, hL, hc, hc']
      refine c_WriteStringG hb (by simp; omega) fun m3 hb3 => ?_
      have hv3 : SlR m3 1 v (xs.map .string) xs.length := hv.keep fun b h => hb3.1.2 b (hvb b h)
      obtain ⟨v', sl1, sv', sb'⟩ := hv3.behind (k := 1) (by omega)
      have sl2 : slW 1 v (some (.int .i64 1)) none = some v' := by simpa using sl1
      have sv2 : SlR m3 1 v' (ys.map .string) ys.length := by
        rw [hys] at sv'; simpa using sv'
      simp -implicitDefEqProofs (disch := first | assumption | (simp only [wnA]; done) | (simp only [wnA]; omega) | omega | fail) [wkA, retV, stabOk, dC, ev, fillD, pickCells, putAt, bnd, slD, List.getElem?_cons_zero, List.getElem?_cons_succ, dR_sl, Mem.cell, Mem.row, wmA, t0, sl2, sv2.slen]
      refine LoopW_of (fun k ts m' => ∃ j, j + k = ys.length ∧ ts 1 = .string sep ∧ ts 8 = .pointer (some ⟨m1.next, 0, none⟩) ∧ ts 63 = v' ∧ ts 64 = .int .i64 (ys.length : Nat) ∧ ts 65 = .int .i64 (j : Nat) ∧
        BldG m1 m' m1.next (x.data.toList ++ (ys.take j).flatMap fun y => sep.data.toList ++ y.data.toList)) ys.length ?_ ?_
      · exact ⟨0, by omega, by simp [t1], by simp, by simp, by simp, by simp, by simpa using hb3⟩
      · rintro k' ts' m4 K' ⟨j, hj', s1, s8, s63, s64, s65, hb4⟩ hK'
        simp -implicitDefEqProofs (disch := first | assumption | (simp only [wnA]; done) | (simp only [wnA]; omega) | omega | fail) [rc45_3, wkA, retV, stabOk, dC, ev, fillD, pickCells, putAt, bnd, slD, List.getElem?_cons_zero, List.getElem?_cons_succ, dR_sl, Mem.cell, Mem.row, wmA, s64, s65]
        have hfl := flat_sep_len sep.data.toList (ys.take j)
        have htk := totL_take ys j
        have htl : (ys.take j).length = min j ys.length := List.length_take
        by_cases hjl2 : j < ys.length
        · have hv4 : SlR m4 1 v' (ys.map .string) ys.length := sv2.keep fun b h => by rw [hb4.1.2 b (hvb b (sb' b h)), hb3.1.2 b (hvb b (sb' b h))]
          obtain ⟨ci, co, Lc, hvv2, hL2, hLl2, -, hLc2⟩ := hv4.at hjl2
          have hd := hLc2 0 (by omega)
          simp only [Nat.mul_one, Nat.add_zero, List.getElem?_map, List.getElem?_eq_getElem hjl2, Option.map_some] at hd
          obtain ⟨y, hy⟩ : ∃ y, ys[j] = y := ⟨_, rfl⟩
          have hts := totL_succ hjl2
          have htk1 := totL_take ys (j + 1)
          rw [hy] at hd hts
          rw [hvv2] at s63
          obtain ⟨hlt2, hd'⟩ := List.getElem?_eq_some_iff.1 hd
          have hjw : IntKind.i64.wrap ((j : Int) + 1) = ((j + 1 : Nat) : Int) := by rw [w64 (by omega)]; omega
          have hnx : ((ys.take (j + 1)).flatMap fun y => sep.data.toList ++ y.data.toList) = ((ys.take j).flatMap fun y => sep.data.toList ++ y.data.toList) ++ (sep.data.toList ++ y.data.toList) := by
            rw [List.take_succ_eq_append_getElem hjl2, List.flatMap_append, hy]; simp
          have hm1 : sep.data.toList.length * (ys.take j).length ≤ sep.size * ys.length := by
            rw [show sep.data.toList.length = sep.size from by simp]
            exact Nat.mul_le_mul_left _ (by omega)
          have hm2 : sep.size * xs.length = sep.size * ys.length + sep.size := by rw [hlen, Nat.mul_add, Nat.mul_one]
          have hss : sep.data.toList.length = sep.size := by simp
          generalize ((ys.take j).flatMap fun y => sep.data.toList ++ y.data.toList) = B at *
          simp -implicitDefEqProofs (disch := first | assumption | (simp only [wnA]; done) | (simp only [wnA]; omega) | omega | fail) [hjl2, rc45_2, wkA, retV, stabOk, dC, ev, fillD, pickCells, putAt, bnd, slD, List.getElem?_cons_zero, List.getElem?_cons_succ, dR_sl, Mem.cell, Mem.row, wmA, s1, s8, s63, s64, s65, sidx_at, hL2, hd, hd']
          refine c_WriteStringG hb4 (by rw [List.length_append]; omega) fun m5 hb5 => ?_
          simp -implicitDefEqProofs (disch := first | assumption | (simp only [wnA]; done) | (simp only [wnA]; omega) | omega | fail) [wkA, retV, stabOk, dC, ev, fillD, pickCells, putAt, bnd, slD, List.getElem?_cons_zero, List.getElem?_cons_succ, dR_sl, Mem.cell, Mem.row, wmA, s1, s8, s63, s64, s65]
          refine c_WriteStringG hb5 (by rw [List.length_append, List.length_append]; omega) fun m6 hb6 => ?_
          simp -implicitDefEqProofs (disch := first | assumption | (simp only [wnA]; done) | (simp only [wnA]; omega) | omega | fail) [wkA, retV, stabOk, dC, ev, fillD, pickCells, putAt, bnd, slD, List.getElem?_cons_zero, List.getElem?_cons_succ, dR_sl, Mem.cell, Mem.row, wmA, s1, s8, s63, s64, s65, hjw]
          exact hK' (k' - 1) _ _ (by omega) ⟨j + 1, by omega, by simp [s1], by simp [s8], by simp [s63, hvv2], by simp [s64], by simp, by rw [hnx]; simpa using hb6⟩
        · have hjj : j = ys.length := by omega
          subst hjj
          rw [List.take_length] at hb4 hfl
          simp -implicitDefEqProofs (disch := first | assumption | (simp only [wnA]; done) | (simp only [wnA]; omega) | omega | fail) [hjl2, rc45_4, wkA, retV, stabOk, dC, ev, fillD, pickCells, putAt, bnd, slD, List.getElem?_cons_zero, List.getElem?_cons_succ, dR_sl, Mem.cell, Mem.row, wmA, s8]
          refine c_BStringG hb4 ?_ ?_ fun m5 ho => ?_
          · intro e
            have := congrArg List.length e
            simp only [List.length_append, hfl, List.length_nil] at this
            have h9 : 1 ≤ sep.data.toList.length * ys.length := Nat.mul_pos (by simpa using hs) (by omega)
            omega
          · rw [List.length_append, hfl, show sep.data.toList.length = sep.size from by simp]
            have hm2 : sep.size * xs.length = sep.size * ys.length + sep.size := by rw [hlen, Nat.mul_add, Nat.mul_one]
            omega
          · simp -implicitDefEqProofs (disch := first | assumption | (simp only [wnA]; done) | (simp only [wnA]; omega) | omega | fail) [wkA, retV, stabOk, dC, ev, fillD, pickCells, putAt, bnd, slD, List.getElem?_cons_zero, List.getElem?_cons_succ, dR_sl, Mem.cell, Mem.row, wmA]
            rw [← hJ]
            exact hq m5 ho
end Go.Proofs.YthmhappejchilaaGreatDoor.Ab

set_option linter.unusedVariables false
set_option linter.unusedSimpArgs false
namespace Go.Proofs.YthmhappejchilaaGreatDoor.Ab
open Go Go.RowKit
set_option maxHeartbeats 4000000
set_option maxRecDepth 100000
def letterB (c : Int) : Bool := (decide (97 ≤ c) && decide (c ≤ 122)) || (decide (65 ≤ c) && decide (c ≤ 90))
def okc (k : Nat) (c : Int) : Bool := letterB c || (k != 0 && (c == 46 || c == 45 || c == 95 || (decide (48 ≤ c) && decide (c ≤ 57))))
def nameB (s : ByteArray) : Bool := ((List.range s.size).all fun k => okc k (byteAt s k)) && (decide (0 < s.size) && decide (s.size ≤ 32))
theorem c_Name {w0 : World} {m : Mem} {s : ByteArray} {Q : Value → Mem → Prop} (hl : s.size ≤ 9223372036854775807) (hq : Q (.bool (nameB s)) m) : AbC Tryz.prog w0 62 [.string s] m Q := by
  refine AbC_fn ok62 (by simp) ?_
  simp -implicitDefEqProofs (disch := first | assumption | (simp only [wnA]; done) | (simp only [wnA]; omega) | omega | fail) [rc62, ro62, wkA, retV, stabOk, dC, ev, fillD, pickCells, putAt, bnd, slD, List.getElem?_cons_zero, List.getElem?_cons_succ, dR_sl, Mem.cell, Mem.row, wmA]
  refine LoopW_of (fun k ts m' => ∃ j, j + k = s.size ∧ m' = m ∧ ts 0 = .string s ∧ ts 7 = .int .i64 (s.size : Nat) ∧ ts 8 = .int .i64 (j : Nat) ∧ (∀ i, i < j → okc i (byteAt s i) = true)) s.size ?_ ?_
  · exact ⟨0, by omega, rfl, by simp [frA_at], by simp, by simp, fun i hi => by omega⟩
  · rintro k ts m1 K ⟨j, hj, rfl, t0, t7, t8, hall⟩ hK
    simp -implicitDefEqProofs (disch := first | assumption | (simp only [wnA]; done) | (simp only [wnA]; omega) | omega | fail) [rc62_1, wkA, retV, stabOk, dC, ev, fillD, pickCells, putAt, bnd, slD, List.getElem?_cons_zero, List.getElem?_cons_succ, dR_sl, Mem.cell, Mem.row, wmA, t7, t8]
    by_cases hjl : j < s.size
    · obtain ⟨g1, g2⟩ := byteAt_get hjl
      have fin : okc j (byteAt s j) = true → ∀ ts' : Fr, ts' 0 = ts 0 → ts' 7 = ts 7 → ts' 8 = .int .i64 ((j + 1 : Nat) : Int) → K ts' m1 := fun ho ts' r0 r7 r8 =>
        hK (k - 1) ts' m1 (by omega) ⟨j + 1, by omega, rfl, by rw [r0, t0], by rw [r7, t7], r8, fun i hi => by
          by_cases hij : i = j
          · subst hij; exact ho
          · exact hall i (by omega)⟩
      have bad : okc j (byteAt s j) = false → Q (.bool false) m1 := fun ho => by
        have : nameB s = false := by
          simp only [nameB, Bool.and_eq_false_iff]
          left
          rw [List.all_eq_false]
          exact ⟨j, by simpa using hjl, by rw [ho]; decide⟩
        rw [← this]; exact hq
      simp -implicitDefEqProofs (disch := first | assumption | (simp only [wnA]; done) | (simp only [wnA]; omega) | omega | fail) [hjl, rc62_0, wkA, retV, stabOk, dC, ev, fillD, pickCells, putAt, bnd, slD, List.getElem?_cons_zero, List.getElem?_cons_succ, dR_sl, Mem.cell, Mem.row, wmA, t0, t8, g1]
      rw [g2] at fin bad
      generalize ((s[j]).toNat : Int) = c at *
      by_cases hj0 : j = 0
      · subst hj0
        have cls : (97 ≤ c ∧ c ≤ 122) ∨ (65 ≤ c ∧ c ≤ 90) ∨ (c < 65) ∨ (90 < c ∧ c < 97) ∨ 122 < c := by omega
        rcases cls with h | h | h | h | h
        all_goals simp -implicitDefEqProofs (disch := first | assumption | (simp only [wnA]; done) | (simp only [wnA]; omega) | omega | fail) [leT, leF, ltT, ltF, beqT, beqF, bneT, bneF, wkA, retV, stabOk, dC, ev, fillD, pickCells, putAt, bnd, slD, List.getElem?_cons_zero, List.getElem?_cons_succ, dR_sl, Mem.cell, Mem.row, wmA, t8, w64]
        all_goals first
          | exact fin (by simp -implicitDefEqProofs (disch := first | assumption | (simp only [wnA]; done) | (simp only [wnA]; omega) | omega | fail) [okc, letterB, leT, leF, ltT, ltF, beqT, beqF]) _ (by simp) (by simp) (by simp)
          | exact bad (by simp -implicitDefEqProofs (disch := first | assumption | (simp only [wnA]; done) | (simp only [wnA]; omega) | omega | fail) [okc, letterB, leT, leF, ltT, ltF, beqT, beqF])
      · have hj1 : ((j : Int) == 0) = false := by simpa using hj0
        have hj2 : (j != 0) = true := by simpa using hj0
        have cls : (97 ≤ c ∧ c ≤ 122) ∨ (65 ≤ c ∧ c ≤ 90) ∨ c < 45 ∨ c = 45 ∨ c = 46 ∨ c = 47 ∨ (48 ≤ c ∧ c ≤ 57) ∨ (57 < c ∧ c < 65) ∨ (90 < c ∧ c < 95) ∨ c = 95 ∨ c = 96 ∨ 122 < c := by omega
        rcases cls with h | h | h | h | h | h | h | h | h | h | h | h
        all_goals simp -implicitDefEqProofs (disch := first | assumption | (simp only [wnA]; done) | (simp only [wnA]; omega) | omega | fail) [leT, leF, ltT, ltF, beqT, beqF, bneT, bneF, wkA, retV, stabOk, dC, ev, fillD, pickCells, putAt, bnd, slD, List.getElem?_cons_zero, List.getElem?_cons_succ, dR_sl, Mem.cell, Mem.row, wmA, t8, hj1, w64]
        all_goals first
          | exact fin (by simp -implicitDefEqProofs (disch := first | assumption | (simp only [wnA]; done) | (simp only [wnA]; omega) | omega | fail) [okc, letterB, leT, leF, ltT, ltF, beqT, beqF, hj2]) _ (by simp) (by simp) (by simp)
          | exact bad (by simp -implicitDefEqProofs (disch := first | assumption | (simp only [wnA]; done) | (simp only [wnA]; omega) | omega | fail) [okc, letterB, leT, leF, ltT, ltF, beqT, beqF, hj2])
    · have hjj : j = s.size := by omega
      subst hjj
      have hn : nameB s = (decide (0 < s.size) && decide (s.size ≤ 32)) := by
        have : (List.range s.size).all (fun k => okc k (byteAt s k)) = true := by
          rw [List.all_eq_true]
          intro i hi
          exact hall i (by simpa using hi)
        simp only [nameB, this, Bool.true_and]
      rw [hn] at hq
      simp -implicitDefEqProofs (disch := first | assumption | (simp only [wnA]; done) | (simp only [wnA]; omega) | omega | fail) [hjl, rc62_2, wkA, retV, stabOk, dC, ev, fillD, pickCells, putAt, bnd, slD, List.getElem?_cons_zero, List.getElem?_cons_succ, dR_sl, Mem.cell, Mem.row, wmA, t0]
      by_cases h0 : 0 < s.size
      · simp only [h0, decide_true, Bool.true_and] at hq
        by_cases h32 : s.size ≤ 32
        · simp only [h32, decide_true] at hq
          have h33 : (s.size : Int) ≤ 32 := by omega
          simp -implicitDefEqProofs (disch := first | assumption | (simp only [wnA]; done) | (simp only [wnA]; omega) | omega | fail) [h0, leT, wkA, retV, stabOk, dC, ev, fillD, pickCells, putAt, bnd, slD, List.getElem?_cons_zero, List.getElem?_cons_succ, dR_sl, Mem.cell, Mem.row, wmA, t0, h32]
          exact hq
        · simp only [h32, decide_false] at hq
          simp -implicitDefEqProofs (disch := first | assumption | (simp only [wnA]; done) | (simp only [wnA]; omega) | omega | fail) [h0, leF, wkA, retV, stabOk, dC, ev, fillD, pickCells, putAt, bnd, slD, List.getElem?_cons_zero, List.getElem?_cons_succ, dR_sl, Mem.cell, Mem.row, wmA, t0, h32]
          exact hq
      · simp only [h0, decide_false, Bool.false_and] at hq
        simp -implicitDefEqProofs (disch := first | assumption | (simp only [wnA]; done) | (simp only [wnA]; omega) | omega | fail) [h0, wkA, retV, stabOk, dC, ev, fillD, pickCells, putAt, bnd, slD, List.getElem?_cons_zero, List.getElem?_cons_succ, dR_sl, Mem.cell, Mem.row, wmA, t0]
        exact hq
end Go.Proofs.YthmhappejchilaaGreatDoor.Ab

set_option linter.unusedVariables false
set_option linter.unusedSimpArgs false
namespace Go.Proofs.YthmhappejchilaaGreatDoor.Ab
open Go Go.RowKit
set_option maxHeartbeats 4000000
set_option maxRecDepth 100000
section
variable {P : Program} {w0 : World} {ts : Fr} {m : Mem} {R : Value → Mem → Prop}
theorem SK_mks {e bytes a : Nat} {z : Value} {n c : Operand} (hn : ev ts n = .int .i64 (a : Int)) (hc : ev ts c = .int .i64 (a : Int)) (hb : bytes * a ≤ 140737488355328) (hm : a ≤ maxLen) :
    SK P w0 (.e (.mks e bytes z n c)) ts m R = R (.slice (some ⟨m.next, 0, none⟩) a 1) (m.push (.own (List.replicate a z) e)) := by
  have h : (0 : Int) ≤ (a : Int) ∧ (a : Int) ≤ (a : Int) ∧ (bytes : Int) * (a : Int) ≤ 140737488355328 ∧ (a : Int) ≤ (maxLen : Nat) := ⟨by omega, Int.le_refl _, by rw [← Int.natCast_mul]; omega, Int.ofNat_le.2 hm⟩
  simp only [SK, dE, hn, hc]
  rw [if_pos h]
  simp
theorem SK_cpys {x y : Operand} {i o n : Nat} {cs : List Value} {e : TypeId} {s : ByteArray} (hx : ev ts x = .slice (some ⟨i, o, none⟩) n 1) (hy : ev ts y = .string s) (hm : m.get i = .own cs e) (hl : s.size ≤ n) (ho : o + n ≤ cs.length) :
    SK P w0 (.e (.cpy 1 x y)) ts m R = R (.int .i64 (s.size : Nat)) (m.set i (.own (putAt cs o (s.data.toList.map byteV)) e)) := by
  have h1 : min s.size n = s.size := by omega
  have h2 : (List.map byteV s.data.toList).take s.size = s.data.toList.map byteV := List.take_of_length_le (by simp)
  simp only [SK, dE, hx, hy, elemsV, if_true, lenV_str, hm, h1, Nat.mul_one, h2]
  rw [if_pos ⟨by omega, byteV_oneC _⟩]
end
structure Fl where
  nm : ByteArray
  size : Int
  time : Int
  mode : Int
def Fl.v (f : Fl) : Value := .agg ⟨[.string f.nm, .int .i64 f.size, .int .i64 f.time, .int .i64 f.mode]⟩
def Fl.ok (f : Fl) : Prop := f.nm.size ≤ 9223372036854775807
def mayB (f : Fl) : Bool := nameB f.nm && (decide (0 ≤ f.size) && (decide (f.size ≤ 8192) && (decide (0 ≤ f.time) && (decide (f.time < 4294967296) && (decide (0 ≤ f.mode) && decide (f.mode < 65536))))))
theorem c_May {w0 : World} {m : Mem} {f : Fl} {Q : Value → Mem → Prop} (hf : f.ok) (hq : ∀ m', Old m m' → Q (.bool (mayB f)) m') : AbC Tryz.prog w0 38 [f.v] m Q := by
  refine AbC_fn ok38 (by simp) ?_
  obtain ⟨nm, sz, ti, mo⟩ := f
  simp only [Fl.v, Fl.ok] at *
  simp -implicitDefEqProofs (disch := first | assumption | (simp only [wnA]; done) | (simp only [wnA]; omega) | omega | fail) [rc38, ro38, wkA, retV, stabOk, dC, ev, fillD, pickCells, putAt, bnd, slD, List.getElem?_cons_zero, List.getElem?_cons_succ, dR.eq_20, Mem.cell, Mem.row, wmA]
  refine c_Name hf ?_
  have hq' := fun b (h : mayB ⟨nm, sz, ti, mo⟩ = b) => h ▸ hq (m.push (.own [.string nm, .int .i64 sz, .int .i64 ti, .int .i64 mo] 30)) ((Old.refl m).push _)
  simp only [mayB] at hq'
  cases hn : nameB nm with
  | false =>
    simp -implicitDefEqProofs (disch := first | assumption | (simp only [wnA]; done) | (simp only [wnA]; omega) | omega | fail) [wkA, retV, stabOk, dC, ev, fillD, pickCells, putAt, bnd, slD, List.getElem?_cons_zero, List.getElem?_cons_succ, dR.eq_20, Mem.cell, Mem.row, wmA]
    exact hq' _ (by simp [hn])
  | true =>
    by_cases h1 : 0 ≤ sz
    · by_cases h2 : sz ≤ 8192
      · by_cases h3 : 0 ≤ ti
        · by_cases h4 : ti < 4294967296
          · by_cases h5 : 0 ≤ mo
            · simp -implicitDefEqProofs (disch := first | assumption | (simp only [wnA]; done) | (simp only [wnA]; omega) | omega | fail) [wkA, retV, stabOk, dC, ev, fillD, pickCells, putAt, bnd, slD, List.getElem?_cons_zero, List.getElem?_cons_succ, dR.eq_20, Mem.cell, Mem.row, wmA, h1, h2, h3, h4, h5]
              exact hq' _ (by simp [hn, h1, h2, h3, h4, h5])
            · simp -implicitDefEqProofs (disch := first | assumption | (simp only [wnA]; done) | (simp only [wnA]; omega) | omega | fail) [wkA, retV, stabOk, dC, ev, fillD, pickCells, putAt, bnd, slD, List.getElem?_cons_zero, List.getElem?_cons_succ, dR.eq_20, Mem.cell, Mem.row, wmA, h1, h2, h3, h4, h5]
              exact hq' _ (by simp [hn, h1, h2, h3, h4, h5])
          · simp -implicitDefEqProofs (disch := first | assumption | (simp only [wnA]; done) | (simp only [wnA]; omega) | omega | fail) [wkA, retV, stabOk, dC, ev, fillD, pickCells, putAt, bnd, slD, List.getElem?_cons_zero, List.getElem?_cons_succ, dR.eq_20, Mem.cell, Mem.row, wmA, h1, h2, h3, h4]
            exact hq' _ (by simp [hn, h1, h2, h3, h4])
        · simp -implicitDefEqProofs (disch := first | assumption | (simp only [wnA]; done) | (simp only [wnA]; omega) | omega | fail) [wkA, retV, stabOk, dC, ev, fillD, pickCells, putAt, bnd, slD, List.getElem?_cons_zero, List.getElem?_cons_succ, dR.eq_20, Mem.cell, Mem.row, wmA, h1, h2, h3]
          exact hq' _ (by simp [hn, h1, h2, h3])
      · simp -implicitDefEqProofs (disch := first | assumption | (simp only [wnA]; done) | (simp only [wnA]; omega) | omega | fail) [wkA, retV, stabOk, dC, ev, fillD, pickCells, putAt, bnd, slD, List.getElem?_cons_zero, List.getElem?_cons_succ, dR.eq_20, Mem.cell, Mem.row, wmA, h1, h2]
        exact hq' _ (by simp [hn, h1, h2])
    · simp -implicitDefEqProofs (disch := first | assumption | (simp only [wnA]; done) | (simp only [wnA]; omega) | omega | fail) [wkA, retV, stabOk, dC, ev, fillD, pickCells, putAt, bnd, slD, List.getElem?_cons_zero, List.getElem?_cons_succ, dR.eq_20, Mem.cell, Mem.row, wmA, h1]
      exact hq' _ (by simp [hn, h1])
/-- The bytes that tell a file. -/
def tellL (f : Fl) : List UInt8 := f.nm.data.toList ++ 0 :: (numS 10 f.size ++ 32 :: (numS 8 f.time ++ 32 :: numS 8 f.mode))
def padL (l : List UInt8) : List UInt8 := l ++ List.replicate (128 - l.length) 0
theorem tell_len {f : Fl} (h : mayB f = true) : (tellL f).length ≤ 90 := by
  unfold mayB at h
  simp only [Bool.and_eq_true, decide_eq_true_eq, nameB] at h
  obtain ⟨⟨-, -, h1⟩, h2, h3, h4, h5, h6, h7⟩ := h
  have n1 : (numS 10 f.size).length ≤ 5 := numS_len (L := 4) (by omega) (by omega) (by omega)
  have n2 : (numS 8 f.time).length ≤ 12 := numS_len (L := 11) (by omega) (by omega) (by omega)
  have n3 : (numS 8 f.mode).length ≤ 7 := numS_len (L := 6) (by omega) (by omega) (by omega)
  have n4 : f.nm.data.toList.length = f.nm.size := by simp
  unfold tellL
  simp only [List.length_append, List.length_cons]
  omega
theorem c_Make {w0 : World} {m : Mem} {f : Fl} {Q : Value → Mem → Prop} (hp : Part L0 m) (ht : Ten w0) (hf : f.ok) (h0 : mayB f = false → ∀ m', Old m m' → Q (.tuple ⟨[.slice none 0 0, .bool false]⟩) m')
    (h1 : mayB f = true → ∀ m' i, Old m m' → m.next ≤ i → i < m'.next → m'.get i = .own ((padL (tellL f)).map byteV) 5 → Q (.tuple ⟨[.slice (some ⟨i, 0, none⟩) 128 1, .bool true]⟩) m') : AbC Tryz.prog w0 19 [f.v] m Q := by
  refine AbC_fn ok19 (by simp) ?_
  obtain ⟨nm, sz, ti, mo⟩ := f
  have e4 : ∀ a b c d : Value, Value.agg ⟨[a, b, c, d]⟩ = Value.agg #[a, b, c, d] := fun _ _ _ _ => rfl
  simp only [Fl.v] at *
  simp -implicitDefEqProofs (disch := first | assumption | (simp only [wnA]; done) | (simp only [wnA]; omega) | omega | fail) [rc19, ro19, wkA, retV, stabOk, dC, ev, fillD, pickCells, putAt, bnd, slD, List.getElem?_cons_zero, List.getElem?_cons_succ, dR.eq_20, Mem.cell, Mem.row, wmA]
  refine c_May (f := ⟨nm, sz, ti, mo⟩) hf fun m1 o1 => ?_
  cases hm : mayB ⟨nm, sz, ti, mo⟩ with
  | false =>
    simp -implicitDefEqProofs (disch := first | assumption | (simp only [wnA]; done) | (simp only [wnA]; omega) | omega | fail) [wkA, retV, stabOk, dC, ev, fillD, pickCells, putAt, bnd, slD, List.getElem?_cons_zero, List.getElem?_cons_succ, dR.eq_20, Mem.cell, Mem.row, wmA]
    exact h0 hm _ (Old.trans ((Old.refl m).push _) o1)
  | true =>
    have g1 : m1.get m.next = .own [.string nm, .int .i64 sz, .int .i64 ti, .int .i64 mo] 30 := by rw [o1.2 _ (by simp)]; simp
    have o2 : Old m m1 := Old.trans ((Old.refl m).push _) o1
    have hmm := hm
    unfold mayB at hmm
    simp only [Bool.and_eq_true, decide_eq_true_eq, nameB] at hmm
    obtain ⟨⟨-, b0, b1⟩, b2, b3, b4, b5, b6, b7⟩ := hmm
    have n1 : (numS 10 sz).length ≤ 5 := numS_len (L := 4) (by omega) (by omega) (by omega)
    have n2 : (numS 8 ti).length ≤ 12 := numS_len (L := 11) (by omega) (by omega) (by omega)
    have n3 : (numS 8 mo).length ≤ 7 := numS_len (L := 6) (by omega) (by omega) (by omega)
    simp -implicitDefEqProofs (disch := first | assumption | (simp only [wnA]; done) | (simp only [wnA]; omega) | omega | fail) [wkA, retV, stabOk, dC, ev, fillD, pickCells, putAt, bnd, slD, List.getElem?_cons_zero, List.getElem?_cons_succ, dR.eq_20, Mem.cell, Mem.row, wmA, rc19_0, g1]
    refine c_Itoa ht (by omega) ?_
    simp -implicitDefEqProofs (disch := first | assumption | (simp only [wnA]; done) | (simp only [wnA]; omega) | omega | fail) [wkA, retV, stabOk, dC, ev, fillD, pickCells, putAt, bnd, slD, List.getElem?_cons_zero, List.getElem?_cons_succ, dR.eq_20, Mem.cell, Mem.row, wmA, g1]
    refine c_FormatInt (B := 8) (Old.part hp o2) ht (.inl rfl) (by omega) fun m2 o3 => ?_
    have g2 : m2.get m.next = .own [.string nm, .int .i64 sz, .int .i64 ti, .int .i64 mo] 30 := by rw [o3.2 _ (by have := o1.1; simp at this; omega), g1]
    simp -implicitDefEqProofs (disch := first | assumption | (simp only [wnA]; done) | (simp only [wnA]; omega) | omega | fail) [wkA, retV, stabOk, dC, ev, fillD, pickCells, putAt, bnd, slD, List.getElem?_cons_zero, List.getElem?_cons_succ, dR.eq_20, Mem.cell, Mem.row, wmA, g1, g2]
    refine c_FormatInt (B := 8) (Old.part hp (o2.trans o3)) ht (.inl rfl) (by omega) fun m3 o4 => ?_
    have g3 : m3.get m.next = .own [.string nm, .int .i64 sz, .int .i64 ti, .int .i64 mo] 30 := by rw [o4.2 _ (by have := o1.1; have := o3.1; simp at *; omega), g2]
    simp -implicitDefEqProofs (disch := first | assumption | (simp only [wnA]; done) | (simp only [wnA]; omega) | omega | fail) [wkA, retV, stabOk, dC, ev, fillD, pickCells, putAt, bnd, slD, List.getElem?_cons_zero, List.getElem?_cons_succ, dR.eq_20, Mem.cell, Mem.row, wmA, g1, g2, g3]
    rw [SK_bsl (cs := [.string ⟨⟨numS 10 sz⟩⟩, .string ⟨⟨numS 8 ti⟩⟩, .string ⟨⟨numS 8 mo⟩⟩]) (by simp [wkA, retV, stabOk, dC, ev, fillD, pickCells, putAt, bnd, slD, List.getElem?_cons_zero, List.getElem?_cons_succ, dR.eq_20]) (by simp)]
    simp -implicitDefEqProofs (disch := first | assumption | (simp only [wnA]; done) | (simp only [wnA]; omega) | omega | fail) [wkA, retV, stabOk, dC, ev, fillD, pickCells, putAt, bnd, slD, List.getElem?_cons_zero, List.getElem?_cons_succ, dR.eq_20, Mem.cell, Mem.row, wmA]
    have hlt : m.next < m3.next := by have := o1.1; have := o3.1; have := o4.1; simp at *; omega
    rw [SK_mks (a := 128) (by simp [wkA, retV, stabOk, dC, ev, fillD, pickCells, putAt, bnd, slD, List.getElem?_cons_zero, List.getElem?_cons_succ, dR.eq_20]) (by simp [wkA, retV, stabOk, dC, ev, fillD, pickCells, putAt, bnd, slD, List.getElem?_cons_zero, List.getElem?_cons_succ, dR.eq_20]) (by omega) (by simp only [maxLen]; omega)]
    obtain ⟨Z, hZ⟩ : ∃ Z, List.replicate 128 (Value.int .u8 0) = Z := ⟨_, rfl⟩
    rw [hZ]
    have hz1 : m.next ≠ m3.next := by omega
    have hz2 : m.next ≠ m3.next + 1 := by omega
    have j1 : (⟨⟨numS 10 sz⟩⟩ : ByteArray).size = (numS 10 sz).length := rfl
    have j2 : (⟨⟨numS 8 ti⟩⟩ : ByteArray).size = (numS 8 ti).length := rfl
    have j3 : (⟨⟨numS 8 mo⟩⟩ : ByteArray).size = (numS 8 mo).length := rfl
    have pa : dBin .add (.string nm) (.string ⟨#[0]⟩) = some (.string (nm ++ ⟨⟨[0]⟩⟩)) := dBin_sadd (by show nm.size + 1 ≤ _; omega)
    simp -implicitDefEqProofs (disch := first | assumption | (simp only [wnA]; done) | (simp only [wnA]; omega) | omega | fail) [wkA, retV, stabOk, dC, ev, fillD, pickCells, putAt, bnd, slD, List.getElem?_cons_zero, List.getElem?_cons_succ, dR.eq_20, Mem.cell, Mem.row, wmA, g3, pa]
    refine c_Join (xs := [⟨⟨numS 10 sz⟩⟩, ⟨⟨numS 8 ti⟩⟩, ⟨⟨numS 8 mo⟩⟩]) (sep := ⟨⟨[32]⟩⟩) ?_ ?_ (by simp) (by decide) ?_ fun m4 o5 => ?_
    · exact ⟨rfl, .inr ⟨m3.next, 0, [.string ⟨⟨numS 10 sz⟩⟩, .string ⟨⟨numS 8 ti⟩⟩, .string ⟨⟨numS 8 mo⟩⟩], rfl, by simp -implicitDefEqProofs (disch := first | assumption | (simp only [wnA]; done) | (simp only [wnA]; omega) | omega | fail) [Mem.cell, Mem.row, wmA], by simp, rfl⟩⟩
    · intro b hb
      simp [blk] at hb
      simp; omega
    · simp only [totL, List.map_cons, List.map_nil, List.sum_cons, List.sum_nil, j1, j2, j3, List.length_cons, List.length_nil]
      show (1 + 1) * _ + _ ≤ _
      omega
    have g4 : m4.get m.next = .own [.string nm, .int .i64 sz, .int .i64 ti, .int .i64 mo] 30 := by rw [o5.2 _ (by simp; omega)]; simp -implicitDefEqProofs (disch := first | assumption | (simp only [wnA]; done) | (simp only [wnA]; omega) | omega | fail) [Mem.cell, Mem.row, wmA, g3]
    have g5 : m4.get (m3.next + 1) = .own Z 5 := by rw [o5.2 _ (by simp)]; simp [Mem.push_get]
    have htl := tell_len hm
    have hjl : (nm ++ ⟨⟨[0]⟩⟩) ++ (⟨⟨joinL [32] [⟨⟨numS 10 sz⟩⟩, ⟨⟨numS 8 ti⟩⟩, ⟨⟨numS 8 mo⟩⟩]⟩⟩ : ByteArray) = ⟨⟨tellL ⟨nm, sz, ti, mo⟩⟩⟩ := by
      apply ByteArray.ext
      simp [tellL, joinL]
    have pb : dBin .add (.string (nm ++ ⟨⟨[0]⟩⟩)) (.string ⟨⟨joinL [32] [⟨⟨numS 10 sz⟩⟩, ⟨⟨numS 8 ti⟩⟩, ⟨⟨numS 8 mo⟩⟩]⟩⟩) = some (.string ⟨⟨tellL ⟨nm, sz, ti, mo⟩⟩⟩) := by
      rw [dBin_sadd, hjl]
      have : (nm ++ ⟨⟨[0]⟩⟩ : ByteArray).size = nm.size + 1 := by rw [ByteArray.size_append]; rfl
      rw [this]
      show _ + (joinL [32] [⟨⟨numS 10 sz⟩⟩, ⟨⟨numS 8 ti⟩⟩, ⟨⟨numS 8 mo⟩⟩]).length ≤ _
      simp [joinL]; omega
    simp -implicitDefEqProofs (disch := first | assumption | (simp only [wnA]; done) | (simp only [wnA]; omega) | omega | fail) [wkA, retV, stabOk, dC, ev, fillD, pickCells, putAt, bnd, slD, List.getElem?_cons_zero, List.getElem?_cons_succ, dR.eq_20, Mem.cell, Mem.row, wmA, g4, pb]
    have hZl : Z.length = 128 := by rw [← hZ]; simp
    have htl2 : (⟨⟨tellL ⟨nm, sz, ti, mo⟩⟩⟩ : ByteArray).size = (tellL ⟨nm, sz, ti, mo⟩).length := rfl
    rw [SK_cpys (i := m3.next + 1) (o := 0) (n := 128) (s := ⟨⟨tellL ⟨nm, sz, ti, mo⟩⟩⟩) (by simp [wkA, retV, stabOk, dC, ev, fillD, pickCells, putAt, bnd, slD, List.getElem?_cons_zero, List.getElem?_cons_succ, dR.eq_20]) (by simp [wkA, retV, stabOk, dC, ev, fillD, pickCells, putAt, bnd, slD, List.getElem?_cons_zero, List.getElem?_cons_succ, dR.eq_20]) g5 (by omega) (by omega)]
    simp -implicitDefEqProofs (disch := first | assumption | (simp only [wnA]; done) | (simp only [wnA]; omega) | omega | fail) [wkA, retV, stabOk, dC, ev, fillD, pickCells, putAt, bnd, slD, List.getElem?_cons_zero, List.getElem?_cons_succ, dR.eq_20, Mem.cell, Mem.row, wmA]
    refine h1 hm _ (m3.next + 1) ?_ (by omega) ?_ ?_
    · exact (o2.trans (o3.trans (o4.trans (Old.trans (((Old.refl m3).push _).push _) o5)))).set (by omega) _
    · have := o5.1; simp at this ⊢; omega
    · simp only [Mem.set_same, padL]
      congr 1
      simp only [List.take_zero, List.nil_append, List.length_map, Nat.zero_add, List.map_append, List.map_replicate, ← hZ, List.drop_replicate, byteV]
      rfl
end Go.Proofs.YthmhappejchilaaGreatDoor.Ab

set_option linter.unusedVariables false
set_option linter.unusedSimpArgs false
namespace Go.Proofs.YthmhappejchilaaGreatDoor.Ab
open Go Go.RowKit
section
variable {m : Mem}
theorem arg_u8 (d : TD) (c : List Value) (hf : Fits (.int .u8) d) (h : AbsT m d c) : ∃ a : UInt8, c = [byteV a] ∧ True := by
  obtain ⟨n, rfl, rfl, hw⟩ := absT_int h hf
  have hw' : 0 ≤ n ∧ n ≤ 255 := by simpa [Lit.wf, IntKind.min, IntKind.max, IntKind.signed, IntKind.bits] using hw
  refine ⟨UInt8.ofNat n.toNat, ?_, trivial⟩
  have : (UInt8.ofNat n.toNat).toNat = n.toNat := by
    rw [UInt8.toNat_ofNat']; omega
  simp only [byteV, this]
  congr 2; omega
theorem flat_one {α : Type} (f : α → Value) : ∀ l : List α, l.flatMap (fun b => [f b]) = l.map f
  | [] => rfl
  | x :: l => by simp [flat_one f l]
theorem absT_bys {td : TD} {v : Value} (h : AbsT m td [v]) (hs : Fits (.sl (.int .u8)) td) :
    ∃ bs : List UInt8, SlR m 1 v (bs.map byteV) bs.length ∧ (∀ b, blk v = some b → b < m.next) ∧ bs.length + 1 ≤ td.bulk := by
  obtain ⟨l, xs, rfl, h1, h2, h3⟩ := absT_slice (f := fun b : UInt8 => [byteV b]) (z := 1) (R := fun _ _ => True) (fun _ => rfl) arg_u8 h hs
  rw [flat_one byteV] at h1
  refine ⟨xs, h1, h3, ?_⟩
  have := TD.bulks_len l
  rw [h2.length]
  simp [TD.bulk]; omega
theorem sl_max {G : Loc} {v v' : Value} {sz n : Nat} {cs : List Value} (h : SlR m sz v cs n) (hu : VR G v v') : n ≤ maxLen := by
  rcases h.2 with ⟨rfl, _⟩ | ⟨i, o, L, rfl, _⟩
  · exact Nat.zero_le _
  · cases hu with
    | sl _ _ _ _ _ _ c _ _ hn hc => omega
theorem wf_u16 {n : Int} (h : (Lit.int .u16 n).wf = true) : 0 ≤ n ∧ n ≤ 65535 := by
  have : 0 ≤ n ∧ n ≤ 65535 := by simpa [Lit.wf, IntKind.min, IntKind.max, IntKind.signed, IntKind.bits] using h
  exact this
end
end Go.Proofs.YthmhappejchilaaGreatDoor.Ab

set_option linter.unusedVariables false
set_option linter.unusedSimpArgs false
namespace Go.Proofs.YthmhappejchilaaGreatDoor.Ab
open Go Go.RowKit
set_option maxHeartbeats 4000000
set_option maxRecDepth 100000
theorem split_at {x : UInt8} : ∀ {a b r s : List UInt8}, x ∉ a → x ∉ b → a ++ x :: r = b ++ x :: s → a = b ∧ r = s
  | [], [], r, s, _, _, h => by simpa using h
  | [], c :: b, r, s, _, hb, h => by simp at h; exact (hb (by simp [h.1])).elim
  | c :: a, [], r, s, ha, _, h => by simp at h; exact (ha (by simp [← h.1])).elim
  | c :: a, d :: b, r, s, ha, hb, h => by
    simp only [List.cons_append, List.cons.injEq] at h
    obtain ⟨rfl, h⟩ := h
    obtain ⟨rfl, rfl⟩ := split_at (fun e => ha (by simp [e])) (fun e => hb (by simp [e])) h
    exact ⟨rfl, rfl⟩
theorem take_pad {a : List UInt8} (h : (0 : UInt8) ∉ a) (k : Nat) : (a ++ List.replicate k 0).takeWhile (fun c => c != 0) = a := by
  induction a with
  | nil => cases k <;> simp [List.replicate_succ]
  | cons c a ih =>
    have hc : (c != 0) = true := by simp; exact fun e => h (by simp [e])
    simp only [List.cons_append, List.takeWhile_cons, hc, if_true]
    rw [ih (fun e => h (by simp [e]))]
def decC (c : UInt8) : Nat := if c.toNat < 58 then c.toNat - 48 else c.toNat - 87
theorem decC_at : ∀ d : Fin 36, decC (digC d.val) = d.val ∧ digC d.val ≠ 0 ∧ digC d.val ≠ 32 := by decide +kernel
def valD (b : Nat) (l : List UInt8) : Nat := l.foldl (fun a c => a * b + decC c) 0
theorem valD_digs {b : Nat} (hb : 2 ≤ b) (hb2 : b ≤ 36) : ∀ n, valD b (digs b n) = n := by
  intro n
  induction n using Nat.strongRecOn with
  | _ n ih =>
    by_cases h : n < b
    · rw [digs_lt h]
      simp [valD, (decC_at ⟨n, by omega⟩).1]
    · have h1 : n / b < n := Nat.div_lt_self (by omega) (by omega)
      have h2 : n % b < b := Nat.mod_lt _ (by omega)
      rw [digs_ge hb (by omega)]
      have := ih _ h1
      unfold valD at this ⊢
      rw [List.foldl_append, this]
      simp only [List.foldl_cons, List.foldl_nil]
      rw [(decC_at ⟨n % b, by omega⟩).1]
      have := Nat.div_add_mod n b
      rw [Nat.mul_comm] at this
      exact this
theorem digs_mem {b : Nat} (hb : 2 ≤ b) (hb2 : b ≤ 36) : ∀ n, ∀ c ∈ digs b n, c ≠ 0 ∧ c ≠ 32 := by
  intro n
  induction n using Nat.strongRecOn with
  | _ n ih =>
    intro c hc
    by_cases h : n < b
    · rw [digs_lt h] at hc
      simp at hc; subst hc
      exact (decC_at ⟨n, by omega⟩).2
    · have h1 : n / b < n := Nat.div_lt_self (by omega) (by omega)
      have h2 : n % b < b := Nat.mod_lt _ (by omega)
      rw [digs_ge hb (by omega), List.mem_append] at hc
      rcases hc with hc | hc
      · exact ih _ h1 c hc
      · simp at hc; subst hc
        exact (decC_at ⟨n % b, by omega⟩).2
theorem numS_mem {b : Nat} (hb : 2 ≤ b) (hb2 : b ≤ 36) (i : Int) : ∀ c ∈ numS b i, c ≠ 0 ∧ c ≠ 32 := by
  intro c hc
  unfold numS sgn at hc
  rw [List.mem_append] at hc
  rcases hc with hc | hc
  · split at hc
    · simp at hc; subst hc; decide
    · simp at hc
  · exact digs_mem hb hb2 _ c hc
theorem numS_inj {b : Nat} (hb : 2 ≤ b) (hb2 : b ≤ 36) {i j : Int} (hi : 0 ≤ i) (hj : 0 ≤ j) (h : numS b i = numS b j) : i = j := by
  unfold numS sgn at h
  rw [if_neg (by simpa using hi), if_neg (by simpa using hj)] at h
  simp only [List.nil_append] at h
  have := congrArg (valD b) h
  rw [valD_digs hb hb2, valD_digs hb hb2] at this
  omega
theorem nameB_mem {nm : ByteArray} (h : nameB nm = true) : (0 : UInt8) ∉ nm.data.toList := by
  intro hm
  obtain ⟨k, hk, hc⟩ := List.mem_iff_getElem.1 hm
  unfold nameB at h
  rw [Bool.and_eq_true, List.all_eq_true] at h
  have hk' : k < nm.size := by simpa using hk
  have := h.1 k (by simpa using hk')
  have h0 : byteAt nm k = 0 := by
    rw [(byteAt_get hk').2]
    have : nm[k] = nm.data.toList[k] := by simp; rfl
    rw [this, hc]; rfl
  rw [h0] at this
  simp [okc, letterB] at this
def sameB (f g : Fl) : Bool := (f.nm.data.toList == g.nm.data.toList) && ((f.size == g.size) && ((f.time == g.time) && (f.mode == g.mode)))
theorem tell_inj {f g : Fl} (hf : mayB f = true) (hg : mayB g = true) : (padL (tellL f) == padL (tellL g)) = sameB f g := by
  have lf := tell_len hf
  have lg := tell_len hg
  unfold mayB at hf hg
  simp only [Bool.and_eq_true, decide_eq_true_eq] at hf hg
  obtain ⟨f1, f2, f3, f4, f5, f6, f7⟩ := hf
  obtain ⟨g1, g2, g3, g4, g5, g6, g7⟩ := hg
  rw [Bool.eq_iff_iff]
  simp only [sameB, Bool.and_eq_true, beq_iff_eq]
  constructor
  · intro h
    unfold padL at h
    unfold tellL at h lf lg
    simp only [List.append_assoc, List.cons_append] at h
    obtain ⟨e1, h⟩ := split_at (nameB_mem f1) (nameB_mem g1) h
    have s10 := fun i e => (numS_mem (b := 10) (by omega) (by omega) i 32 e).2 rfl
    have s8 := fun i e => (numS_mem (b := 8) (by omega) (by omega) i 32 e).2 rfl
    have z8 := fun i e => (numS_mem (b := 8) (by omega) (by omega) i 0 e).1 rfl
    obtain ⟨e2, h⟩ := split_at (s10 _) (s10 _) h
    obtain ⟨e3, h⟩ := split_at (s8 _) (s8 _) h
    have e4 := congrArg (List.takeWhile (fun c => c != 0)) h
    rw [take_pad (z8 _), take_pad (z8 _)] at e4
    exact ⟨e1, numS_inj (by omega) (by omega) f2 g2 e2, numS_inj (by omega) (by omega) f4 g4 e3, numS_inj (by omega) (by omega) f6 g6 e4⟩
  · rintro ⟨e1, e2, e3, e4⟩
    unfold padL tellL
    rw [e1, e2, e3, e4]
end Go.Proofs.YthmhappejchilaaGreatDoor.Ab

set_option linter.unusedVariables false
set_option linter.unusedSimpArgs false
namespace Go.Proofs.YthmhappejchilaaGreatDoor.Ab
open Go Go.RowKit
set_option maxHeartbeats 4000000
set_option maxRecDepth 100000
theorem pad_len {f : Fl} (h : mayB f = true) : (padL (tellL f)).length = 128 := by
  have := tell_len h
  unfold padL; simp; omega
end Go.Proofs.YthmhappejchilaaGreatDoor.Ab

set_option linter.unusedVariables false
set_option linter.unusedSimpArgs false
namespace Go.Proofs.YthmhappejchilaaGreatDoor.Ab
open Go Go.RowKit
set_option maxHeartbeats 4000000
set_option maxRecDepth 100000
def lowN (c : UInt8) : Nat := Nat.lor c.toNat 32
def dgt (c : UInt8) : Option Nat := if 48 ≤ c.toNat ∧ c.toNat ≤ 57 then some (c.toNat - 48) else if 97 ≤ lowN c ∧ lowN c ≤ 122 then some (lowN c - 97 + 10) else none
def puStep (B M n : Nat) (c : UInt8) : Option Nat := match dgt c with
  | some d => if d < B ∧ n * B + d ≤ M then some (n * B + d) else none
  | none => none
/-- What a text's number is, up to M. -/
def puL (B M : Nat) : Nat → List UInt8 → Option Nat
  | n, [] => some n
  | n, c :: l => match puStep B M n c with
    | some n' => puL B M n' l
    | none => none
theorem lowN_lt (c : UInt8) : lowN c < 256 := by
  have h1 : c.toNat < 2 ^ 8 := c.toNat_lt
  have : c.toNat ||| 32 < 2 ^ 8 := Nat.or_lt_two_pow h1 (by omega)
  exact this
theorem dOr32 (c : UInt8) : dBin .or (.int .u8 (c.toNat : Int)) (.int .u8 32) = some (.int .u8 ((lowN c : Nat) : Int)) := by
  have h1 : c.toNat < 256 := c.toNat_lt
  have h2 := binI_eq (op := .or) (k := .u8) (a := Int.ofNat c.toNat) (b := Int.ofNat 32) (v := .int .u8 (IntKind.u8.wrap (Int.ofNat (Nat.lor c.toNat 32)))) (by
    simp only [binI, bitI]
    rw [blt_true.2 (show c.toNat < kTop .u8 by simpa [kTop] using h1), blt_true.2 (show 32 < kTop .u8 by simp [kTop])]
    simp only [wrapF_eq])
  have h3 : IntKind.u8.wrap (Int.ofNat (Nat.lor c.toNat 32)) = ((lowN c : Nat) : Int) := by
    have := lowN_lt c
    rw [IntKind.wrap_u8]
    show ((lowN c : Nat) : Int) % 256 = _
    omega
  rw [h3] at h2
  exact h2
theorem c_lower {w0 : World} {m : Mem} {c : UInt8} {Q : Value → Mem → Prop} (hq : Q (.int .u8 ((lowN c : Nat) : Int)) m) : AbC Tryz.prog w0 144 [.int .u8 (c.toNat : Int)] m Q := by
  refine AbC_fn ok144 (by simp) ?_
  simp -implicitDefEqProofs (disch := first | assumption | (simp only [wnA]; done) | (simp only [wnA]; omega) | omega | fail) [rc144, ro144, wkA, retV, stabOk, dC, ev, fillD, pickCells, putAt, bnd, slD, List.getElem?_cons_zero, List.getElem?_cons_succ, dR_sl, Mem.cell, Mem.row, wmA, dOr32]
  exact hq
theorem w_PUtail {w0 : World} {Q : AQ} {ts : Fr} {m : Mem} {B M n d C : Nat} (hC : 18446744073709551616 ≤ C * B ∧ (C - 1) * B ≤ 18446744073709551615 ∧ 1 ≤ C) (hB : 2 ≤ B ∧ B ≤ 36) (hM : n ≤ M ∧ M ≤ 18446744073709551615) (hd : d < 256)
    (t1 : ts 1 = .int .i64 (B : Int)) (t10 : ts 10 = .int .u64 (C : Int)) (t11 : ts 11 = .int .u64 (M : Int)) (t13 : ts 13 = .int .u64 (n : Int)) (t16 : ts 16 = .int .u8 (d : Int))
    (he : ∀ ts' v c, ts' 6 = .int .u64 v → ts' 7 = .iface 192 (.int .i64 c) → (c = 1 ∨ c = 2) → (c = 1 → v = (M : Int)) → ¬ (d < B ∧ n * B + d ≤ M) → Q .ret ts' m)
    (hq : ∀ ts', ts' 1 = ts 1 → ts' 8 = ts 8 → ts' 10 = ts 10 → ts' 11 = ts 11 → ts' 12 = ts 12 → ts' 99 = ts 99 → ts' 100 = ts 100 → ts' 101 = ts 101 → ts' 13 = .int .u64 ((n * B + d : Nat) : Int) → d < B → n * B + d ≤ M → Q .normal ts' m) :
    AbW Tryz.prog w0 rc132_2 Q ts m := by
  have wB8 : IntKind.u8.wrap (B : Int) = (B : Int) := by rw [IntKind.wrap_u8]; omega
  have wB64 : IntKind.u64.wrap (B : Int) = (B : Int) := IntWalk.u64_in _ (by omega)
  have wd64 : IntKind.u64.wrap (d : Int) = (d : Int) := IntWalk.u64_in _ (by omega)
  simp -implicitDefEqProofs (disch := first | assumption | (simp only [wnA]; done) | (simp only [wnA]; omega) | omega | fail) [rc132_2, wkA, retV, stabOk, dC, ev, fillD, pickCells, putAt, bnd, slD, List.getElem?_cons_zero, List.getElem?_cons_succ, dR_sl, Mem.cell, Mem.row, wmA, t1, t16, wB8]
  by_cases h1 : B ≤ d
  · simp -implicitDefEqProofs (disch := first | assumption | (simp only [wnA]; done) | (simp only [wnA]; omega) | omega | fail) [wkA, retV, stabOk, dC, ev, fillD, pickCells, putAt, bnd, slD, List.getElem?_cons_zero, List.getElem?_cons_succ, dR_sl, Mem.cell, Mem.row, wmA, h1]
    exact he _ 0 2 (by simp) (by simp) (.inr rfl) (fun h => absurd h (by decide)) (by omega)
  · simp -implicitDefEqProofs (disch := first | assumption | (simp only [wnA]; done) | (simp only [wnA]; omega) | omega | fail) [wkA, retV, stabOk, dC, ev, fillD, pickCells, putAt, bnd, slD, List.getElem?_cons_zero, List.getElem?_cons_succ, dR_sl, Mem.cell, Mem.row, wmA, h1, rc132_1, t10, t13]
    by_cases h2 : C ≤ n
    · simp -implicitDefEqProofs (disch := first | assumption | (simp only [wnA]; done) | (simp only [wnA]; omega) | omega | fail) [wkA, retV, stabOk, dC, ev, fillD, pickCells, putAt, bnd, slD, List.getElem?_cons_zero, List.getElem?_cons_succ, dR_sl, Mem.cell, Mem.row, wmA, h2, t11]
      refine he _ (M : Int) 1 (by simp) (by simp) (.inl rfl) (fun _ => rfl) ?_
      intro h3
      have h5 : C * B ≤ n * B := Nat.mul_le_mul_right _ h2
      omega
    · have h4 : n ≤ C - 1 := by omega
      have h5 : n * B ≤ (C - 1) * B := Nat.mul_le_mul_right _ h4
      have h6 := hC.2.1
      have w1 : IntKind.u64.wrap ((n : Int) * (B : Int)) = ((n * B : Nat) : Int) := by
        rw [← Int.natCast_mul]; exact IntWalk.u64_in _ (by omega)
      have w1' : IntKind.u64.wrap ((n * B : Nat) : Int) = ((n * B : Nat) : Int) := IntWalk.u64_in _ (by omega)
      generalize hX : n * B = X at *
      simp -implicitDefEqProofs (disch := first | assumption | (simp only [wnA]; done) | (simp only [wnA]; omega) | omega | fail) [wkA, retV, stabOk, dC, ev, fillD, pickCells, putAt, bnd, slD, List.getElem?_cons_zero, List.getElem?_cons_succ, dR_sl, Mem.cell, Mem.row, wmA, h2, rc132_0, t1, t13, t16, wB64, w1, wd64]
      by_cases h7 : X + d ≤ 18446744073709551615
      · have w2 : IntKind.u64.wrap ((X : Int) + (d : Int)) = ((X + d : Nat) : Int) := by rw [IntWalk.u64_in _ (by omega)]; omega
        have h8 : ¬ X + d < X := by omega
        by_cases h9 : X + d ≤ M
        · have h10 : ¬ M < X + d := by omega
          have h11 : ¬ ((M : Int) < (X : Int) + (d : Int)) := by omega
          have h12 : ¬ ((X : Int) + (d : Int) < (X : Int)) := by omega
          simp -implicitDefEqProofs (disch := first | assumption | (simp only [wnA]; done) | (simp only [wnA]; omega) | omega | fail) [wkA, retV, stabOk, dC, ev, fillD, pickCells, putAt, bnd, slD, List.getElem?_cons_zero, List.getElem?_cons_succ, dR_sl, Mem.cell, Mem.row, wmA, w2, h8, h10, h11, h12, t11]
          exact hq _ (by simp) (by simp) (by simp) (by simp) (by simp) (by simp) (by simp) (by simp) (by simp) (by omega) h9
        · have h10 : M < X + d := by omega
          have h11 : (M : Int) < (X : Int) + (d : Int) := by omega
          have h12 : ¬ ((X : Int) + (d : Int) < (X : Int)) := by omega
          simp -implicitDefEqProofs (disch := first | assumption | (simp only [wnA]; done) | (simp only [wnA]; omega) | omega | fail) [wkA, retV, stabOk, dC, ev, fillD, pickCells, putAt, bnd, slD, List.getElem?_cons_zero, List.getElem?_cons_succ, dR_sl, Mem.cell, Mem.row, wmA, w2, h8, h10, h11, h12, t11]
          exact he _ (M : Int) 1 (by simp) (by simp) (.inl rfl) (fun _ => rfl) (by omega)
      · obtain ⟨Y, hY⟩ := Nat.exists_eq_add_of_le (show 18446744073709551616 ≤ X + d by omega)
        have h12 : (Y : Int) < (X : Int) := by omega
        have h8 : Y < X := by omega
        have w2 : IntKind.u64.wrap ((X : Int) + (d : Int)) = (Y : Int) := by
          have e : (X : Int) + (d : Int) = 18446744073709551616 + (Y : Int) := by omega
          rw [e]
          simp only [IntKind.wrap, IntKind.bits, IntKind.signed]
          simp
          omega
        simp -implicitDefEqProofs (disch := first | assumption | (simp only [wnA]; done) | (simp only [wnA]; omega) | omega | fail) [wkA, retV, stabOk, dC, ev, fillD, pickCells, putAt, bnd, slD, List.getElem?_cons_zero, List.getElem?_cons_succ, dR_sl, Mem.cell, Mem.row, wmA, w2, h8, h12, t11]
        exact he _ (M : Int) 1 (by simp) (by simp) (.inl rfl) (fun _ => rfl) (by omega)
theorem w_PUloop {w0 : World} {Q : AQ} {ts : Fr} {m : Mem} {B M bits C : Nat} {s : ByteArray} (hC : 18446744073709551616 ≤ C * B ∧ (C - 1) * B ≤ 18446744073709551615 ∧ 1 ≤ C) (hB : B = 8 ∨ B = 10 ∨ B = 16) (hM : (bits = 32 ∧ M = 4294967295) ∨ (bits = 64 ∧ M = 18446744073709551615)) (hs : s.size ≤ 140737488355328)
    (t0 : ts 0 = .string s) (t1 : ts 1 = .int .i64 (B : Int)) (t2 : ts 2 = .int .i64 (bits : Int)) (t8 : ts 8 = .bool false) (t10 : ts 10 = .int .u64 (C : Int))
    (he : ∀ ts' m' v c, Old m m' → ts' 6 = .int .u64 v → ts' 7 = .iface 192 (.int .i64 c) → (c = 1 ∨ c = 2) → (c = 1 → v = (M : Int)) → puL B M 0 s.data.toList = none → Q .ret ts' m')
    (hq : ∀ ts' m' v, Old m m' → ts' 6 = .int .u64 ((v : Nat) : Int) → ts' 7 = .nilIface → puL B M 0 s.data.toList = some v → Q .ret ts' m') :
    AbW Tryz.prog w0 rc132_7 Q ts m := by
  have hBr : 2 ≤ B ∧ B ≤ 36 := by omega
  have hMr : M ≤ 18446744073709551615 := by omega
  have sh : dBin .shl (.int .u64 1) (.int .u64 (bits : Int)) = some (.int .u64 (IntKind.u64.wrap ((M : Int) + 1))) := by
    rcases hM with ⟨rfl, rfl⟩ | ⟨rfl, rfl⟩ <;> rfl
  have wbits : IntKind.u64.wrap (bits : Int) = (bits : Int) := IntWalk.u64_in _ (by omega)
  have wM : IntKind.u64.wrap (IntKind.u64.wrap ((M : Int) + 1) - 1) = (M : Int) := by
    rcases hM with ⟨rfl, rfl⟩ | ⟨rfl, rfl⟩ <;> rfl
  simp -implicitDefEqProofs (disch := first | assumption | (simp only [wnA]; done) | (simp only [wnA]; omega) | omega | fail) [rc132_7, wkA, retV, stabOk, dC, ev, fillD, pickCells, putAt, bnd, slD, List.getElem?_cons_zero, List.getElem?_cons_succ, dR_sl, Mem.cell, Mem.row, wmA, t0, t2, sh, wbits, wM]
  rw [SK_s2b (s := s) (by simp [wkA, retV, stabOk, dC, ev, fillD, pickCells, putAt, bnd, slD, List.getElem?_cons_zero, List.getElem?_cons_succ, dR_sl]) hs]
  simp -implicitDefEqProofs (disch := first | assumption | (simp only [wnA]; done) | (simp only [wnA]; omega) | omega | fail) [wkA, retV, stabOk, dC, ev, fillD, pickCells, putAt, bnd, slD, List.getElem?_cons_zero, List.getElem?_cons_succ, dR_sl, Mem.cell, Mem.row, wmA]
  have o1 : Old m (m.push (.own (s.data.toList.map byteV) 5)) := (Old.refl m).push _
  have g1 : (m.push (.own (s.data.toList.map byteV) 5)).get m.next = .own (s.data.toList.map byteV) 5 := by simp
  generalize m.push (.own (s.data.toList.map byteV) 5) = m1 at *
  have hsz : s.data.toList.length = s.size := by simp
  refine LoopW_of (fun k ts' m' => ∃ j n, j + k = s.size ∧ m' = m1 ∧ ts' 1 = .int .i64 (B : Int) ∧ ts' 8 = .bool false ∧ ts' 10 = .int .u64 (C : Int) ∧ ts' 11 = .int .u64 (M : Int) ∧ ts' 12 = .bool false ∧ ts' 13 = .int .u64 ((n : Nat) : Int) ∧
    ts' 99 = .slice (some ⟨m.next, 0, none⟩) s.size 1 ∧ ts' 100 = .int .i64 (s.size : Nat) ∧ ts' 101 = .int .i64 (j : Nat) ∧ n ≤ M ∧ puL B M 0 s.data.toList = puL B M n (s.data.toList.drop j)) s.size ?_ ?_
  · exact ⟨0, 0, by omega, rfl, by simp [t1], by simp [t8], by simp [t10], by simp, by simp, by simp, by simp, by simp, by simp, by omega, by simp⟩
  · rintro k ts' m2 K ⟨j, n, hj, rfl, s1, s8, s10, s11, s12, s13, s99, s100, s101, hn, hpu⟩ hK
    simp -implicitDefEqProofs (disch := first | assumption | (simp only [wnA]; done) | (simp only [wnA]; omega) | omega | fail) [rc132_4, wkA, retV, stabOk, dC, ev, fillD, pickCells, putAt, bnd, slD, List.getElem?_cons_zero, List.getElem?_cons_succ, dR_sl, Mem.cell, Mem.row, wmA, s100, s101]
    by_cases hjl : j < s.size
    · have hjl' : j < s.data.toList.length := by omega
      obtain ⟨c, hc⟩ : ∃ c, s.data.toList[j] = c := ⟨_, rfl⟩
      have hat : (s.data.toList.map byteV)[j]? = some (byteV c) := by rw [List.getElem?_map, List.getElem?_eq_getElem hjl', hc]; rfl
      obtain ⟨hlt', hat'⟩ := List.getElem?_eq_some_iff.1 hat
      have hdr : s.data.toList.drop j = c :: s.data.toList.drop (j + 1) := by rw [List.drop_eq_getElem_cons hjl', hc]
      have hjw : IntKind.i64.wrap ((j : Int) + 1) = ((j + 1 : Nat) : Int) := by rw [w64 (by omega)]; omega
      have hcl : c.toNat < 256 := c.toNat_lt
      rw [hdr] at hpu
      have bad : puStep B M n c = none → puL B M 0 s.data.toList = none := fun h => by rw [hpu]; simp [puL, h]
      have good : ∀ n', puStep B M n c = some n' → puL B M 0 s.data.toList = puL B M n' (s.data.toList.drop (j + 1)) := fun n' h => by rw [hpu]; simp [puL, h]
      generalize s.data.toList.map byteV = row at *
      have tail : ∀ (ts2 : Fr) (d : Nat), dgt c = some d → d < 256 → ∀ {Q2 : AQ}, (∀ ts' m', Q2 .ret ts' m' = Q .ret ts' m') → (∀ ts', ts' 1 = ts2 1 → ts' 8 = ts2 8 → ts' 10 = ts2 10 → ts' 11 = ts2 11 → ts' 12 = ts2 12 → ts' 99 = ts2 99 → ts' 100 = ts2 100 → ts' 101 = ts2 101 → ts' 13 = .int .u64 ((n * B + d : Nat) : Int) → n * B + d ≤ M → puStep B M n c = some (n * B + d) → Q2 .normal ts' m2) →
          ts2 1 = .int .i64 (B : Int) → ts2 10 = .int .u64 (C : Int) → ts2 11 = .int .u64 (M : Int) → ts2 13 = .int .u64 (n : Int) → ts2 16 = .int .u8 (d : Int) → AbW Tryz.prog w0 rc132_2 Q2 ts2 m2 := by
        intro ts2 d hdg hd Q2 hr hq2 u1 u10 u11 u13 u16
        refine w_PUtail hC hBr ⟨hn, hMr⟩ hd u1 u10 u11 u13 u16 (fun ts' v c' h6 h7 hc' hv' hno => ?_) fun ts' r1 r8 r10 r11 r12 r99 r100 r101 r13 hdB hle => ?_
        · rw [hr]
          refine he ts' m2 v c' o1 h6 h7 hc' hv' (bad ?_)
          simp only [puStep, hdg]
          rw [if_neg hno]
        · exact hq2 ts' r1 r8 r10 r11 r12 r99 r100 r101 r13 hle (by simp only [puStep, hdg]; rw [if_pos ⟨hdB, hle⟩])
      have fin : ∀ (ts' : Fr) (d : Nat), ts' 1 = .int .i64 (B : Int) → ts' 8 = .bool false → ts' 10 = .int .u64 (C : Int) → ts' 11 = .int .u64 (M : Int) → ts' 12 = .bool false → ts' 99 = .slice (some ⟨m.next, 0, none⟩) s.size 1 → ts' 100 = .int .i64 (s.size : Nat) → ts' 101 = .int .i64 ((j + 1 : Nat) : Int) → ts' 13 = .int .u64 ((n * B + d : Nat) : Int) → n * B + d ≤ M → puStep B M n c = some (n * B + d) → K ts' m2 := fun ts' d r1 r8 r10 r11 r12 r99 r100 r101 r13 hle hp =>
        hK (k - 1) ts' m2 (by omega) ⟨j + 1, n * B + d, by omega, rfl, r1, r8, r10, r11, r12, r13, r99, r100, r101, hle, good _ hp⟩
      by_cases h95 : c.toNat = 95
      · have q1 : ((c.toNat : Int) == 95) = true := by simp [h95]
        have q3 : dgt c = none := by
          have hc95 : c = 95 := UInt8.toNat_inj.1 h95
          rw [hc95]; decide
        have q4 : lowN c = 127 := by
          have hc95 : c = 95 := UInt8.toNat_inj.1 h95
          rw [hc95]; decide
        have q5 : (48 : Int) ≤ (c.toNat : Int) := by omega
        have q2 : ¬ (c.toNat : Int) ≤ 57 := by omega
        simp -implicitDefEqProofs (disch := first | assumption | (simp only [wnA]; done) | (simp only [wnA]; omega) | omega | fail) [hjl, rc132_3, wkA, retV, stabOk, dC, ev, fillD, pickCells, putAt, bnd, slD, List.getElem?_cons_zero, List.getElem?_cons_succ, dR_sl, Mem.cell, Mem.row, wmA, s8, s99, s101, sidx_at, g1, hat, hat', byteV, q1, q2, q5]
        refine c_lower ?_
        simp -implicitDefEqProofs (disch := first | assumption | (simp only [wnA]; done) | (simp only [wnA]; omega) | omega | fail) [wkA, retV, stabOk, dC, ev, fillD, pickCells, putAt, bnd, slD, List.getElem?_cons_zero, List.getElem?_cons_succ, dR_sl, Mem.cell, Mem.row, wmA, q4]
        refine c_lower ?_
        simp -implicitDefEqProofs (disch := first | assumption | (simp only [wnA]; done) | (simp only [wnA]; omega) | omega | fail) [wkA, retV, stabOk, dC, ev, fillD, pickCells, putAt, bnd, slD, List.getElem?_cons_zero, List.getElem?_cons_succ, dR_sl, Mem.cell, Mem.row, wmA, q4]
        exact he _ m2 0 2 o1 (by simp) (by simp) (.inr rfl) (fun h => absurd h (by decide)) (bad (by simp [puStep, q3]))
      · have q1 : ((c.toNat : Int) == 95) = false := by simp; omega
        by_cases h48 : 48 ≤ c.toNat ∧ c.toNat ≤ 57
        · have hd : dgt c = some (c.toNat - 48) := by simp [dgt, h48]
          have i48 : (48 : Int) ≤ (c.toNat : Int) ∧ (c.toNat : Int) ≤ 57 := by omega
          have w8 : IntKind.u8.wrap ((c.toNat : Int) - 48) = ((c.toNat - 48 : Nat) : Int) := by rw [IntKind.wrap_u8]; omega
          simp -implicitDefEqProofs (disch := first | assumption | (simp only [wnA]; done) | (simp only [wnA]; omega) | omega | fail) [hjl, rc132_3, wkA, retV, stabOk, dC, ev, fillD, pickCells, putAt, bnd, slD, List.getElem?_cons_zero, List.getElem?_cons_succ, dR_sl, Mem.cell, Mem.row, wmA, s8, s99, s101, sidx_at, g1, hat, hat', byteV, q1, i48, w8]
          refine tail _ (c.toNat - 48) hd (by omega) ?_ ?_ ?_ ?_ ?_ ?_ ?_
          · intro ts3 m3; simp -implicitDefEqProofs (disch := first | assumption | (simp only [wnA]; done) | (simp only [wnA]; omega) | omega | fail) [wkA, retV, stabOk, dC, ev, fillD, pickCells, putAt, bnd, slD, List.getElem?_cons_zero, List.getElem?_cons_succ, dR_sl, Mem.cell, Mem.row, wmA]
          · intro ts3 r1 r8 r10 r11 r12 r99 r100 r101 r13 hle hp
            simp at r1 r8 r10 r11 r12 r99 r100 r101
            simp -implicitDefEqProofs (disch := first | assumption | (simp only [wnA]; done) | (simp only [wnA]; omega) | omega | fail) [wkA, retV, stabOk, dC, ev, fillD, pickCells, putAt, bnd, slD, List.getElem?_cons_zero, List.getElem?_cons_succ, dR_sl, Mem.cell, Mem.row, wmA, r101, s101, hjw]
            exact fin _ (c.toNat - 48) (by simp [r1, s1]) (by simp [r8, s8]) (by simp [r10, s10]) (by simp [r11, s11]) (by simp [r12, s12]) (by simp [r99, s99]) (by simp [r100, s100]) (by simp) (by simp [r13]) hle hp
          · simp [s1]
          · simp [s10]
          · simp [s11]
          · simp [s13]
          · simp
        · by_cases h97 : 97 ≤ lowN c ∧ lowN c ≤ 122
          · have hd : dgt c = some (lowN c - 97 + 10) := by simp only [dgt]; rw [if_neg h48, if_pos h97]
            have w8 : IntKind.u8.wrap (((lowN c : Nat) : Int) - 97) = ((lowN c - 97 : Nat) : Int) := by rw [IntKind.wrap_u8]; omega
            have w8' : IntKind.u8.wrap (((lowN c - 97 : Nat) : Int) + 10) = ((lowN c - 97 + 10 : Nat) : Int) := by rw [IntKind.wrap_u8]; omega
            have i97 : (97 : Int) ≤ ((lowN c : Nat) : Int) ∧ ((lowN c : Nat) : Int) ≤ 122 := by omega
            generalize hlo : lowN c = lo at *
            have cl : ∀ {R : Value → Mem → Prop}, R (.int .u8 ((lo : Nat) : Int)) m2 → AbC Tryz.prog w0 144 [.int .u8 (c.toNat : Int)] m2 R := fun h => c_lower (by rw [hlo]; exact h)
            generalize hE : lo - 97 = e at *
            by_cases h48a : (48 : Int) ≤ (c.toNat : Int)
            · have h57 : ¬ (c.toNat : Int) ≤ 57 := by omega
              simp -implicitDefEqProofs (disch := first | assumption | (simp only [wnA]; done) | (simp only [wnA]; omega) | omega | fail) [hjl, rc132_3, wkA, retV, stabOk, dC, ev, fillD, pickCells, putAt, bnd, slD, List.getElem?_cons_zero, List.getElem?_cons_succ, dR_sl, Mem.cell, Mem.row, wmA, s8, s99, s101, sidx_at, g1, hat, hat', byteV, q1, h48a, h57]
              refine cl ?_
              simp -implicitDefEqProofs (disch := first | assumption | (simp only [wnA]; done) | (simp only [wnA]; omega) | omega | fail) [wkA, retV, stabOk, dC, ev, fillD, pickCells, putAt, bnd, slD, List.getElem?_cons_zero, List.getElem?_cons_succ, dR_sl, Mem.cell, Mem.row, wmA, i97]
              refine cl ?_
              simp -implicitDefEqProofs (disch := first | assumption | (simp only [wnA]; done) | (simp only [wnA]; omega) | omega | fail) [wkA, retV, stabOk, dC, ev, fillD, pickCells, putAt, bnd, slD, List.getElem?_cons_zero, List.getElem?_cons_succ, dR_sl, Mem.cell, Mem.row, wmA, i97]
              refine cl ?_
              simp -implicitDefEqProofs (disch := first | assumption | (simp only [wnA]; done) | (simp only [wnA]; omega) | omega | fail) [wkA, retV, stabOk, dC, ev, fillD, pickCells, putAt, bnd, slD, List.getElem?_cons_zero, List.getElem?_cons_succ, dR_sl, Mem.cell, Mem.row, wmA, w8, w8']
              refine tail _ (e + 10) hd (by omega) ?_ ?_ ?_ ?_ ?_ ?_ ?_
              · intro ts3 m3; simp -implicitDefEqProofs (disch := first | assumption | (simp only [wnA]; done) | (simp only [wnA]; omega) | omega | fail) [wkA, retV, stabOk, dC, ev, fillD, pickCells, putAt, bnd, slD, List.getElem?_cons_zero, List.getElem?_cons_succ, dR_sl, Mem.cell, Mem.row, wmA]
              · intro ts3 r1 r8 r10 r11 r12 r99 r100 r101 r13 hle hp
                simp at r1 r8 r10 r11 r12 r99 r100 r101
                simp -implicitDefEqProofs (disch := first | assumption | (simp only [wnA]; done) | (simp only [wnA]; omega) | omega | fail) [wkA, retV, stabOk, dC, ev, fillD, pickCells, putAt, bnd, slD, List.getElem?_cons_zero, List.getElem?_cons_succ, dR_sl, Mem.cell, Mem.row, wmA, r101, s101, hjw]
                exact fin _ (e + 10) (by simp [r1, s1]) (by simp [r8, s8]) (by simp [r10, s10]) (by simp [r11, s11]) (by simp [r12, s12]) (by simp [r99, s99]) (by simp [r100, s100]) (by simp) (by simp [r13]) hle hp
              · simp [s1]
              · simp [s10]
              · simp [s11]
              · simp [s13]
              · simp
            · simp -implicitDefEqProofs (disch := first | assumption | (simp only [wnA]; done) | (simp only [wnA]; omega) | omega | fail) [hjl, rc132_3, wkA, retV, stabOk, dC, ev, fillD, pickCells, putAt, bnd, slD, List.getElem?_cons_zero, List.getElem?_cons_succ, dR_sl, Mem.cell, Mem.row, wmA, s8, s99, s101, sidx_at, g1, hat, hat', byteV, q1, h48a]
              refine cl ?_
              simp -implicitDefEqProofs (disch := first | assumption | (simp only [wnA]; done) | (simp only [wnA]; omega) | omega | fail) [wkA, retV, stabOk, dC, ev, fillD, pickCells, putAt, bnd, slD, List.getElem?_cons_zero, List.getElem?_cons_succ, dR_sl, Mem.cell, Mem.row, wmA, i97]
              refine cl ?_
              simp -implicitDefEqProofs (disch := first | assumption | (simp only [wnA]; done) | (simp only [wnA]; omega) | omega | fail) [wkA, retV, stabOk, dC, ev, fillD, pickCells, putAt, bnd, slD, List.getElem?_cons_zero, List.getElem?_cons_succ, dR_sl, Mem.cell, Mem.row, wmA, i97]
              refine cl ?_
              simp -implicitDefEqProofs (disch := first | assumption | (simp only [wnA]; done) | (simp only [wnA]; omega) | omega | fail) [wkA, retV, stabOk, dC, ev, fillD, pickCells, putAt, bnd, slD, List.getElem?_cons_zero, List.getElem?_cons_succ, dR_sl, Mem.cell, Mem.row, wmA, w8, w8']
              refine tail _ (e + 10) hd (by omega) ?_ ?_ ?_ ?_ ?_ ?_ ?_
              · intro ts3 m3; simp -implicitDefEqProofs (disch := first | assumption | (simp only [wnA]; done) | (simp only [wnA]; omega) | omega | fail) [wkA, retV, stabOk, dC, ev, fillD, pickCells, putAt, bnd, slD, List.getElem?_cons_zero, List.getElem?_cons_succ, dR_sl, Mem.cell, Mem.row, wmA]
              · intro ts3 r1 r8 r10 r11 r12 r99 r100 r101 r13 hle hp
                simp at r1 r8 r10 r11 r12 r99 r100 r101
                simp -implicitDefEqProofs (disch := first | assumption | (simp only [wnA]; done) | (simp only [wnA]; omega) | omega | fail) [wkA, retV, stabOk, dC, ev, fillD, pickCells, putAt, bnd, slD, List.getElem?_cons_zero, List.getElem?_cons_succ, dR_sl, Mem.cell, Mem.row, wmA, r101, s101, hjw]
                exact fin _ (e + 10) (by simp [r1, s1]) (by simp [r8, s8]) (by simp [r10, s10]) (by simp [r11, s11]) (by simp [r12, s12]) (by simp [r99, s99]) (by simp [r100, s100]) (by simp) (by simp [r13]) hle hp
              · simp [s1]
              · simp [s10]
              · simp [s11]
              · simp [s13]
              · simp
          · have hd : dgt c = none := by simp only [dgt]; rw [if_neg h48, if_neg h97]
            generalize hlo : lowN c = lo at *
            have cl : ∀ {R : Value → Mem → Prop}, R (.int .u8 ((lo : Nat) : Int)) m2 → AbC Tryz.prog w0 144 [.int .u8 (c.toNat : Int)] m2 R := fun h => c_lower (by rw [hlo]; exact h)
            have out : ∀ ts3 : Fr, ts3 6 = .int .u64 0 → ts3 7 = .iface 192 (.int .i64 2) → Q .ret ts3 m2 := fun ts3 e6 e7 => he ts3 m2 0 2 o1 e6 e7 (.inr rfl) (fun h => absurd h (by decide)) (bad (by simp [puStep, hd]))
            by_cases h48a : (48 : Int) ≤ (c.toNat : Int)
            · have h57 : ¬ (c.toNat : Int) ≤ 57 := by omega
              simp -implicitDefEqProofs (disch := first | assumption | (simp only [wnA]; done) | (simp only [wnA]; omega) | omega | fail) [hjl, rc132_3, wkA, retV, stabOk, dC, ev, fillD, pickCells, putAt, bnd, slD, List.getElem?_cons_zero, List.getElem?_cons_succ, dR_sl, Mem.cell, Mem.row, wmA, s8, s99, s101, sidx_at, g1, hat, hat', byteV, q1, h48a, h57]
              refine cl ?_
              by_cases hl1 : (97 : Int) ≤ (lo : Int)
              · have hl2 : ¬ (lo : Int) ≤ 122 := by omega
                simp -implicitDefEqProofs (disch := first | assumption | (simp only [wnA]; done) | (simp only [wnA]; omega) | omega | fail) [wkA, retV, stabOk, dC, ev, fillD, pickCells, putAt, bnd, slD, List.getElem?_cons_zero, List.getElem?_cons_succ, dR_sl, Mem.cell, Mem.row, wmA, hl1]
                refine cl ?_
                simp -implicitDefEqProofs (disch := first | assumption | (simp only [wnA]; done) | (simp only [wnA]; omega) | omega | fail) [wkA, retV, stabOk, dC, ev, fillD, pickCells, putAt, bnd, slD, List.getElem?_cons_zero, List.getElem?_cons_succ, dR_sl, Mem.cell, Mem.row, wmA, hl2]
                exact out _ (by simp) (by simp)
              · simp -implicitDefEqProofs (disch := first | assumption | (simp only [wnA]; done) | (simp only [wnA]; omega) | omega | fail) [wkA, retV, stabOk, dC, ev, fillD, pickCells, putAt, bnd, slD, List.getElem?_cons_zero, List.getElem?_cons_succ, dR_sl, Mem.cell, Mem.row, wmA, hl1]
                exact out _ (by simp) (by simp)
            · simp -implicitDefEqProofs (disch := first | assumption | (simp only [wnA]; done) | (simp only [wnA]; omega) | omega | fail) [hjl, rc132_3, wkA, retV, stabOk, dC, ev, fillD, pickCells, putAt, bnd, slD, List.getElem?_cons_zero, List.getElem?_cons_succ, dR_sl, Mem.cell, Mem.row, wmA, s8, s99, s101, sidx_at, g1, hat, hat', byteV, q1, h48a]
              refine cl ?_
              by_cases hl1 : (97 : Int) ≤ (lo : Int)
              · have hl2 : ¬ (lo : Int) ≤ 122 := by omega
                simp -implicitDefEqProofs (disch := first | assumption | (simp only [wnA]; done) | (simp only [wnA]; omega) | omega | fail) [wkA, retV, stabOk, dC, ev, fillD, pickCells, putAt, bnd, slD, List.getElem?_cons_zero, List.getElem?_cons_succ, dR_sl, Mem.cell, Mem.row, wmA, hl1]
                refine cl ?_
                simp -implicitDefEqProofs (disch := first | assumption | (simp only [wnA]; done) | (simp only [wnA]; omega) | omega | fail) [wkA, retV, stabOk, dC, ev, fillD, pickCells, putAt, bnd, slD, List.getElem?_cons_zero, List.getElem?_cons_succ, dR_sl, Mem.cell, Mem.row, wmA, hl2]
                exact out _ (by simp) (by simp)
              · simp -implicitDefEqProofs (disch := first | assumption | (simp only [wnA]; done) | (simp only [wnA]; omega) | omega | fail) [wkA, retV, stabOk, dC, ev, fillD, pickCells, putAt, bnd, slD, List.getElem?_cons_zero, List.getElem?_cons_succ, dR_sl, Mem.cell, Mem.row, wmA, hl1]
                exact out _ (by simp) (by simp)
    · have hjj : j = s.size := by omega
      subst hjj
      rw [List.drop_eq_nil_of_le (by omega)] at hpu
      simp -implicitDefEqProofs (disch := first | assumption | (simp only [wnA]; done) | (simp only [wnA]; omega) | omega | fail) [hjl, rc132_6, rc132_5, wkA, retV, stabOk, dC, ev, fillD, pickCells, putAt, bnd, slD, List.getElem?_cons_zero, List.getElem?_cons_succ, dR_sl, Mem.cell, Mem.row, wmA, s12, s13]
      exact hq _ _ n o1 (by simp) (by simp) hpu
end Go.Proofs.YthmhappejchilaaGreatDoor.Ab

set_option linter.unusedVariables false
set_option linter.unusedSimpArgs false
namespace Go.Proofs.YthmhappejchilaaGreatDoor.Ab
open Go Go.RowKit
set_option maxHeartbeats 4000000
set_option maxRecDepth 100000
theorem c_iPU {w0 : World} {m : Mem} {B M bits : Nat} {s : ByteArray} {Q : Value → Mem → Prop} (hB : B = 8 ∨ B = 10 ∨ B = 16) (hM : (bits = 32 ∧ M = 4294967295) ∨ (bits = 64 ∧ M = 18446744073709551615)) (hs : s.size ≤ 140737488355328)
    (he : ∀ m' v c, Old m m' → (c = 1 ∨ c = 2) → (s.size = 0 → c = 2) → (c = 1 → v = (M : Int)) → (s.size = 0 ∨ puL B M 0 s.data.toList = none) → Q (.tuple ⟨[.int .u64 v, .iface 192 (.int .i64 c)]⟩) m')
    (hq : ∀ m' v, Old m m' → s.size ≠ 0 → puL B M 0 s.data.toList = some v → Q (.tuple ⟨[.int .u64 ((v : Nat) : Int), .nilIface]⟩) m') :
    AbC Tryz.prog w0 132 [.string s, .int .i64 (B : Int), .int .i64 (bits : Int)] m Q := by
  refine AbC_fn ok132 (by simp) ?_
  simp -implicitDefEqProofs (disch := first | assumption | (simp only [wnA]; done) | (simp only [wnA]; omega) | omega | fail) [rc132, ro132, wkA, retV, stabOk, dC, ev, fillD, pickCells, putAt, bnd, slD, List.getElem?_cons_zero, List.getElem?_cons_succ, dR_sl, Mem.cell, Mem.row, wmA]
  by_cases h0 : s.size = 0
  · have hem : s.data.isEmpty = true := Array.isEmpty_iff_size_eq_zero.2 h0
    simp -implicitDefEqProofs (disch := first | assumption | (simp only [wnA]; done) | (simp only [wnA]; omega) | omega | fail) [wkA, retV, stabOk, dC, ev, fillD, pickCells, putAt, bnd, slD, List.getElem?_cons_zero, List.getElem?_cons_succ, dR_sl, Mem.cell, Mem.row, wmA, hem]
    exact he _ 0 2 (Old.refl m) (.inr rfl) (fun _ => rfl) (fun h => absurd h (by decide)) (.inl h0)
  · have hem : s.data.isEmpty = false := by
      cases hx : s.data.isEmpty with
      | false => rfl
      | true => exact (h0 (Array.isEmpty_iff_size_eq_zero.1 hx)).elim
    have f1 : (2 : Int) ≤ (B : Int) ∧ (B : Int) ≤ 36 := by omega
    have f2 : (B : Int) ≠ 0 := by omega
    have f3 : (bits : Int) ≠ 0 := by omega
    have f4 : ¬ (bits : Int) < 0 := by omega
    have f5 : ¬ (64 : Int) < (bits : Int) := by omega
    have he' : ∀ (ts' : Fr) (m' : Mem) (v c : Int), Old m m' → ts' 6 = .int .u64 v → ts' 7 = .iface 192 (.int .i64 c) → (c = 1 ∨ c = 2) → (c = 1 → v = (M : Int)) → puL B M 0 s.data.toList = none → bodyA ro132 Q .ret ts' m' := fun ts' m' v c o e6 e7 hc hvM hn => by
      simp -implicitDefEqProofs (disch := first | assumption | (simp only [wnA]; done) | (simp only [wnA]; omega) | omega | fail) [ro132, wkA, retV, stabOk, dC, ev, fillD, pickCells, putAt, bnd, slD, List.getElem?_cons_zero, List.getElem?_cons_succ, dR_sl, Mem.cell, Mem.row, wmA, e6, e7]
      exact he m' v c o hc (fun h => absurd h h0) hvM (.inr hn)
    have hq' : ∀ (ts' : Fr) (m' : Mem) (v : Nat), Old m m' → ts' 6 = .int .u64 ((v : Nat) : Int) → ts' 7 = .nilIface → puL B M 0 s.data.toList = some v → bodyA ro132 Q .ret ts' m' := fun ts' m' v o e6 e7 hv => by
      simp -implicitDefEqProofs (disch := first | assumption | (simp only [wnA]; done) | (simp only [wnA]; omega) | omega | fail) [ro132, wkA, retV, stabOk, dC, ev, fillD, pickCells, putAt, bnd, slD, List.getElem?_cons_zero, List.getElem?_cons_succ, dR_sl, Mem.cell, Mem.row, wmA, e6, e7]
      exact hq m' v o h0 hv
    simp only [ro132] at he' hq'
    rcases hB with rfl | rfl | rfl
    · have w2 : dBin .quo (.int .u64 18446744073709551615) (.int .u64 8) = some (.int .u64 2305843009213693951) := rfl
      have w3 : IntKind.u64.wrap 2305843009213693952 = 2305843009213693952 := rfl
      have w4 : IntKind.u64.wrap 8 = 8 := rfl
      simp -implicitDefEqProofs (disch := first | assumption | (simp only [wnA]; done) | (simp only [wnA]; omega) | omega | fail) [wkA, retV, stabOk, dC, ev, fillD, pickCells, putAt, bnd, slD, List.getElem?_cons_zero, List.getElem?_cons_succ, dR_sl, Mem.cell, Mem.row, wmA, hem, rc132_10, rc132_9, rc132_8, beqF f3, f4, f5, w2, w3, w4]
      exact w_PUloop (B := 8) (C := 2305843009213693952) (by omega) (.inl rfl) hM hs (by simp [frA_at]) (by simp [frA_at]) (by simp [frA_at]) (by simp) (by simp) he' hq'
    · simp -implicitDefEqProofs (disch := first | assumption | (simp only [wnA]; done) | (simp only [wnA]; omega) | omega | fail) [wkA, retV, stabOk, dC, ev, fillD, pickCells, putAt, bnd, slD, List.getElem?_cons_zero, List.getElem?_cons_succ, dR_sl, Mem.cell, Mem.row, wmA, hem, rc132_10, rc132_9, rc132_8, beqF f3, f4, f5]
      exact w_PUloop (B := 10) (C := 1844674407370955162) (by omega) (.inr (.inl rfl)) hM hs (by simp [frA_at]) (by simp [frA_at]) (by simp [frA_at]) (by simp) (by simp) he' hq'
    · simp -implicitDefEqProofs (disch := first | assumption | (simp only [wnA]; done) | (simp only [wnA]; omega) | omega | fail) [wkA, retV, stabOk, dC, ev, fillD, pickCells, putAt, bnd, slD, List.getElem?_cons_zero, List.getElem?_cons_succ, dR_sl, Mem.cell, Mem.row, wmA, hem, rc132_10, rc132_9, rc132_8, beqF f3, f4, f5]
      exact w_PUloop (B := 16) (C := 1152921504606846976) (by omega) (.inr (.inr rfl)) hM hs (by simp [frA_at]) (by simp [frA_at]) (by simp [frA_at]) (by simp) (by simp) he' hq'
theorem St.dead {P : Program} {w0 w : World} {G : Loc} {m : Mem} (h : St P w0 G m w) (x : Nat × Nat × Nat) : Loc.le G (fun i => if i = m.next then some x else G i) ∧ St P w0 (fun i => if i = m.next then some x else G i) (m.push .dead) w := by
  have hle : Loc.le G (fun i => if i = m.next then some x else G i) := by
    intro i y hy
    have := h.dom i y hy
    show (if i = m.next then some x else G i) = some y
    rw [if_neg (by omega)]; exact hy
  refine ⟨hle, h.below, ?_, ?_, ?_, ?_, ?_, ?_⟩
  · intro i y hy
    by_cases hi : i = m.next
    · subst hi; simp
    · simp only [hi, if_false] at hy
      have := h.dom i y hy
      simp; omega
  · intro i B b S hd hx
    by_cases hi : i = m.next
    · subst hi; simp at hd
    · simp only [hi, if_false] at hx
      exact h.lim i B b S (by simpa only [Mem.push_get, hi, if_false] using hd) hx
  · intro i hd
    by_cases hi : i = m.next
    · subst hi; simp at hd
    · simp only [Mem.push_get, hi, if_false] at hd ⊢
      obtain ⟨B, b, S, hg, hr⟩ := h.ent i hd
      exact ⟨B, b, S, hg, hr.mono hle⟩
  · intro i j B y z hi hj gi gj
    have key : ∀ k, ((m.push .dead).get k).mine = true → k ≠ m.next ∧ (m.get k).mine = true := by
      intro k hk
      by_cases e : k = m.next
      · subst e; simp [Ent.mine] at hk
      · exact ⟨e, by simpa only [Mem.push_get, e, if_false] using hk⟩
    obtain ⟨e1, k1⟩ := key i hi
    obtain ⟨e2, k2⟩ := key j hj
    simp only [e1, e2, if_false] at gi gj
    exact h.inj i j B y z k1 k2 gi gj
  · intro g hg
    obtain ⟨S, hS⟩ := h.glob g hg
    exact ⟨S, hle _ _ hS⟩
  · intro i cs e B b S hi hx
    by_cases h1 : i = m.next
    · subst h1; simp at hi
    · simp only [Mem.push_get, h1, if_false] at hi hx
      exact h.ali i cs e B b S hi hx
theorem c_callsP {P : Program} {w0 : World} {m : Mem} {f : FuncId} {args : List Value} {T : TypeId} {Q : Value → Mem → Prop} (hcall : callOk P f = true) (ha : args.all (plainV 6) = true)
    (h : ∀ (G : Loc) (w : World), St P w0 G m w → Calls P f args.toArray w fun e w' => ∃ N, e = .returned (.iface T (.pointer (some ⟨N, 0, none⟩))) ∧ Below w.heap.size w w') (hq : Q (.iface T (.pointer (some ⟨m.next, 0, none⟩))) (m.push .dead)) : AbC P w0 f args m Q := by
  intro G w args' hs hargs
  have ha' : ∀ u ∈ args, plainV 6 u = true := by simpa [List.all_eq_true] using ha
  have he : args' = args := VRs.plain_eq hargs fun u hu u' hr => VR.plain_eq 6 u u' (ha' u hu) hr
  subst he
  rw [run_callFunc_enter hcall]
  show Calls _ _ _ _ _
  refine (h G w hs).mono ?_
  rintro e w' ⟨N, rfl, hb⟩
  obtain ⟨h1, h2⟩ := (hs.grown hb).dead (N, 0, 0)
  exact ⟨_, rfl, _, _, _, h1, .iface _ _ _ (.ptr m.next 0 N 0 0 (by simp)), h2, hq⟩
def IfaceAt (w : World) (g : Nat) : Prop := ∃ ev, w.cell? ⟨g, 0, none⟩ = some ev ∧ (ev = .nilIface ∨ ∃ t p, ev = .iface t p)
/-- The library's two errors lie in the world. -/
abbrev ErrV (w : World) : Prop := IfaceAt w 3 ∧ IfaceAt w 4
theorem ifaceAt {P : Program} {w0 w : World} {G : Loc} {m : Mem} {g : Nat} (h : IfaceAt w0 g) (hs : St P w0 G m w) : IfaceAt w g := by
  obtain ⟨ev, h1, h2⟩ := h
  refine ⟨ev, ?_, h2⟩
  have hlt : g < w0.heap.size := by
    rcases Nat.lt_or_ge g w0.heap.size with h' | h'
    · exact h'
    · simp [World.cell?, Array.getElem?_eq_none h'] at h1
  unfold World.cell? at h1 ⊢
  rw [hs.below.block g hlt]; exact h1
theorem c_toError {w0 : World} {m : Mem} {fn s : ByteArray} {base bits c : Int} {Q : Value → Mem → Prop} (hE : ErrV w0) (hc : c = 1 ∨ c = 2) (hs : s.size ≤ 140737488355328) (hq : Q (.iface 195 (.pointer (some ⟨m.next, 0, none⟩))) (m.push .dead)) :
    AbC Tryz.prog w0 112 [.string fn, .string s, .int .i64 base, .int .i64 bits, .iface 192 (.int .i64 c)] m Q := by
  refine c_callsP (T := 195) (by kernel_rfl) (by rcases hc with rfl | rfl <;> rfl) (fun G w hst => ?_) hq
  rcases hc with rfl | rfl
  · obtain ⟨ev, h1, h2⟩ := ifaceAt hE.2 hst
    refine (Tryz.strconv_toError_range fn s base bits ev w (by omega) h1 h2).mono ?_
    rintro e w' ⟨N, rfl, -, -, hb⟩
    exact ⟨N, rfl, hb⟩
  · obtain ⟨ev, h1, h2⟩ := ifaceAt hE.1 hst
    refine (Tryz.strconv_toError_syntax fn s base bits ev w (by omega) h1 h2).mono ?_
    rintro e w' ⟨N, rfl, -, -, hb⟩
    exact ⟨N, rfl, hb⟩
theorem laid_iface {P : Program} {W : World} {l : List (String × DataW Unit)} {name tn : String} {d : DataW Unit} {g t : Nat} {ms : Array _} (h : laidMet P l W) (hm : (name, .iface tn d) ∈ l)
    (hg : P.globalNamed name = some g) (hty : (P.globals[g]?).map (·.type) = some t) (ht : P.underlying t = some (.interface ms)) : IfaceAt W g := by
  obtain ⟨ps, hv, _⟩ := h
  obtain ⟨g', t', cs, fuel, p, h1, h2, h3, h4⟩ := laid_mem hv hm
  obtain rfl := Option.some.inj (hg.symm.trans h1)
  obtain rfl := Option.some.inj (hty.symm.trans h2)
  cases fuel with
  | zero => simp [DataW.trod] at h4
  | succ fuel =>
    have hc := fun v (hv : cs.toList = [v]) => by
      have : W.cell? ⟨g, 0, none⟩ = some v := by
        have := World.var?_cell hg h3 0
        rw [this]
        have e : cs[0]? = cs.toList[0]? := by simp
        rw [e, hv]; rfl
      exact this
    simp only [DataW.trod, ht] at h4
    split at h4 <;> first
      | (cases ‹some (TypeDesc.interface ms) = some _›; done)
      | (cases ‹some (TypeDesc.interface ms) = some _›; first
          | (simp at h4; done)
          | exact ⟨_, hc _ ‹cs.toList = _›, .inr ⟨_, _, rfl⟩⟩)
      | (simp at h4; done)
theorem errV_of {W : World} {l : List (String × DataW Unit)} {d1 d2 : DataW Unit} (h : laidMet Tryz.prog l W) (h1 : ("strconv.ErrSyntax", .iface "*errors.errorString" d1) ∈ l) (h2 : ("strconv.ErrRange", .iface "*errors.errorString" d2) ∈ l) : ErrV W :=
  ⟨laid_iface (g := 3) (t := 34) h h1 (by kernel_rfl) (by kernel_rfl) Tryz.underlying34, laid_iface (g := 4) (t := 34) h h2 (by kernel_rfl) (by kernel_rfl) Tryz.underlying34⟩
end Go.Proofs.YthmhappejchilaaGreatDoor.Ab

set_option linter.unusedVariables false
set_option linter.unusedSimpArgs false
namespace Go.Proofs.YthmhappejchilaaGreatDoor.Ab
open Go Go.RowKit
set_option maxHeartbeats 4000000
set_option maxRecDepth 100000
theorem dgt_digC : ∀ d : Fin 36, dgt (digC d.val) = some d.val ∧ digC d.val ≠ 43 ∧ digC d.val ≠ 45 := by decide +kernel
theorem puL_snoc {B M : Nat} (c : UInt8) : ∀ (l : List UInt8) (n : Nat), puL B M n (l ++ [c]) = (puL B M n l).bind fun n' => puStep B M n' c
  | [], n => by
    simp only [List.nil_append, puL, Option.bind_some]
    cases puStep B M n c <;> rfl
  | a :: l, n => by
    simp only [List.cons_append, puL]
    cases puStep B M n a with
    | none => rfl
    | some n' => exact puL_snoc c l n'
theorem puL_digs {B M : Nat} (hB : 2 ≤ B ∧ B ≤ 36) : ∀ n, n ≤ M → puL B M 0 (digs B n) = some n := by
  intro n
  induction n using Nat.strongRecOn with
  | _ n ih =>
    intro hn
    by_cases h : n < B
    · rw [digs_lt h]
      simp only [puL, puStep, (dgt_digC ⟨n, by omega⟩).1]
      rw [if_pos ⟨h, by omega⟩]
      simp
    · have h1 : n / B < n := Nat.div_lt_self (by omega) (by omega)
      have h2 : n % B < B := Nat.mod_lt _ (by omega)
      have h3 : n / B * B + n % B = n := Nat.div_add_mod' n B
      rw [digs_ge (by omega) (by omega), puL_snoc, ih _ h1 (by omega)]
      simp only [Option.bind_some, puStep, (dgt_digC ⟨n % B, by omega⟩).1]
      rw [if_pos ⟨h2, by omega⟩, h3]
theorem numS_ofNat {B n : Nat} : numS B (n : Int) = digs B n := by
  unfold numS sgn
  have h : decide ((n : Int) < 0) = false := by simp
  rw [h]
  simp
theorem digs_sgn {B : Nat} (hB : 2 ≤ B ∧ B ≤ 36) : ∀ n, ∀ c ∈ digs B n, c ≠ 43 ∧ c ≠ 45 := by
  intro n
  induction n using Nat.strongRecOn with
  | _ n ih =>
    intro c hc
    by_cases h : n < B
    · rw [digs_lt h] at hc
      simp at hc; subst hc
      exact (dgt_digC ⟨n, by omega⟩).2
    · have h1 : n / B < n := Nat.div_lt_self (by omega) (by omega)
      have h2 : n % B < B := Nat.mod_lt _ (by omega)
      rw [digs_ge (by omega) (by omega), List.mem_append] at hc
      rcases hc with hc | hc
      · exact ih _ h1 c hc
      · simp at hc; subst hc
        exact (dgt_digC ⟨n % B, by omega⟩).2
theorem digs_none {B : Nat} (hB : B = 8 ∨ B = 10 ∨ B = 16) {s : ByteArray} (h : s.size = 0 ∨ puL B 18446744073709551615 0 s.data.toList = none) {k : Nat} (hk : k < 9223372036854775808) : s.data.toList ≠ digs B k := by
  intro e
  rcases h with h | h
  · have := digs_pos B k
    rw [← e] at this
    simp at this
    omega
  · rw [e, puL_digs (by omega) k (by omega)] at h
    cases h
theorem digs_some {B : Nat} (hB : B = 8 ∨ B = 10 ∨ B = 16) {s : ByteArray} {v : Nat} (h : puL B 18446744073709551615 0 s.data.toList = some v) {k : Nat} (hk : k < 9223372036854775808) (e : s.data.toList = digs B k) : v = k := by
  rw [e, puL_digs (by omega) k (by omega)] at h
  exact (Option.some.inj h).symm
theorem dEq_ii {l : List TypeId} {t : TypeId} {k : IntKind} {a b : Int} : dEq (.iface l) (.iface t (.int k a)) (.iface t (.int k b)) = if l.contains t = true then some (a == b) else none := by
  simp [dEq]
theorem w_PItail {w0 : World} {Q : AQ} {ts : Fr} {m : Mem} {B : Nat} {neg : Bool} {s : ByteArray} (hB : B = 8 ∨ B = 10 ∨ B = 16) (hs : s.size ≤ 140737488355328)
    (t0 : ts 0 = .string s) (t1 : ts 1 = .int .i64 (B : Int)) (t2 : ts 2 = .int .i64 64) (t8 : ts 8 = .bool neg)
    (he : ∀ ts' m' n c, Old m m' → ts' 6 = .int .i64 n → ts' 7 = .iface 192 (.int .i64 c) → (c = 1 ∨ c = 2) → (neg = false → ∀ k, k < 9223372036854775808 → s.data.toList ≠ digs B k) → Q .ret ts' m')
    (hq : ∀ ts' m' n, Old m m' → ts' 6 = .int .i64 n → ts' 7 = .nilIface → (neg = false → ∀ k, k < 9223372036854775808 → s.data.toList = digs B k → n = (k : Int)) → Q .ret ts' m') :
    AbW Tryz.prog w0 rc111_5 Q ts m := by
  have w1 : IntKind.i64.wrap 63 = 63 := rfl
  have w2 : IntKind.u64.wrap 63 = 63 := rfl
  have w3 : dBin .shl (.int .u64 1) (.int .u64 63) = some (.int .u64 9223372036854775808) := rfl
  have w4 : IntKind.u64.wrap 9223372036854775807 = 9223372036854775807 := rfl
  have w5 : IntKind.i64.wrap 9223372036854775807 = 9223372036854775807 := rfl
  simp -implicitDefEqProofs (disch := first | assumption | (simp only [wnA]; done) | (simp only [wnA]; omega) | omega | fail) [rc111_5, wkA, retV, stabOk, dC, ev, fillD, pickCells, putAt, bnd, slD, List.getElem?_cons_zero, List.getElem?_cons_succ, dR.eq_20, Mem.cell, Mem.row, wmA, t0, t1, t2]
  refine c_iPU (bits := 64) hB (.inr ⟨rfl, rfl⟩) hs (fun m1 v c o1 hc h0 hv hn => ?_) fun m1 v o1 h0 hv => ?_
  · have hno : neg = false → ∀ k, k < 9223372036854775808 → s.data.toList ≠ digs B k := fun _ k hk => digs_none hB hn hk
    rcases hc with rfl | rfl
    · have hv := hv rfl
      subst hv
      simp -implicitDefEqProofs (disch := first | assumption | (simp only [wnA]; done) | (simp only [wnA]; omega) | omega | fail) [wkA, retV, stabOk, dC, ev, fillD, pickCells, putAt, bnd, slD, List.getElem?_cons_zero, List.getElem?_cons_succ, dR.eq_20, Mem.cell, Mem.row, wmA, dEq_ii, dR_ieq, ieqW_ii, ieqW_nl, ieqW_nr, rc111_4, rc111_3, rc111_2, t2, t8, w1, w2, w3]
      cases neg with
      | false =>
        simp -implicitDefEqProofs (disch := first | assumption | (simp only [wnA]; done) | (simp only [wnA]; omega) | omega | fail) [wkA, retV, stabOk, dC, ev, fillD, pickCells, putAt, bnd, slD, List.getElem?_cons_zero, List.getElem?_cons_succ, dR.eq_20, Mem.cell, Mem.row, wmA, t8, w4, w5]
        exact he _ m1 _ 1 o1 (by rfl) (by rfl) (.inl rfl) hno
      | true =>
        simp -implicitDefEqProofs (disch := first | assumption | (simp only [wnA]; done) | (simp only [wnA]; omega) | omega | fail) [wkA, retV, stabOk, dC, ev, fillD, pickCells, putAt, bnd, slD, List.getElem?_cons_zero, List.getElem?_cons_succ, dR.eq_20, Mem.cell, Mem.row, wmA, t8, w4, w5]
        exact he _ m1 _ 1 o1 (by rfl) (by rfl) (.inl rfl) hno
    · simp -implicitDefEqProofs (disch := first | assumption | (simp only [wnA]; done) | (simp only [wnA]; omega) | omega | fail) [wkA, retV, stabOk, dC, ev, fillD, pickCells, putAt, bnd, slD, List.getElem?_cons_zero, List.getElem?_cons_succ, dR.eq_20, Mem.cell, Mem.row, wmA, dEq_ii, dR_ieq, ieqW_ii, ieqW_nl, ieqW_nr]
      exact he _ m1 0 2 o1 (by simp) (by simp) (.inr rfl) hno
  · simp -implicitDefEqProofs (disch := first | assumption | (simp only [wnA]; done) | (simp only [wnA]; omega) | omega | fail) [wkA, retV, stabOk, dC, ev, fillD, pickCells, putAt, bnd, slD, List.getElem?_cons_zero, List.getElem?_cons_succ, dR.eq_20, Mem.cell, Mem.row, wmA, dEq_ii, dR_ieq, ieqW_ii, ieqW_nl, ieqW_nr, rc111_4, rc111_3, rc111_2, t2, t8, w1, w2, w3]
    by_cases h1 : v < 9223372036854775808
    · have h2 : ¬ (9223372036854775808 : Int) ≤ (v : Int) := by omega
      have h3 : ¬ (9223372036854775808 : Int) < (v : Int) := by omega
      have h4 : IntKind.i64.wrap (v : Int) = (v : Int) := w64 (by omega)
      have hk : ∀ k, k < 9223372036854775808 → s.data.toList = digs B k → (v : Int) = (k : Int) := fun k hk e => by rw [digs_some hB hv hk e]
      cases neg with
      | false =>
        simp -implicitDefEqProofs (disch := first | assumption | (simp only [wnA]; done) | (simp only [wnA]; omega) | omega | fail) [wkA, retV, stabOk, dC, ev, fillD, pickCells, putAt, bnd, slD, List.getElem?_cons_zero, List.getElem?_cons_succ, dR.eq_20, Mem.cell, Mem.row, wmA, t8, h2, h3, h4, rc111_1, rc111_0]
        exact hq _ m1 v o1 (by simp) (by simp) fun _ => hk
      | true =>
        simp -implicitDefEqProofs (disch := first | assumption | (simp only [wnA]; done) | (simp only [wnA]; omega) | omega | fail) [wkA, retV, stabOk, dC, ev, fillD, pickCells, putAt, bnd, slD, List.getElem?_cons_zero, List.getElem?_cons_succ, dR.eq_20, Mem.cell, Mem.row, wmA, t8, h2, h3, h4, rc111_1, rc111_0]
        exact hq _ m1 _ o1 (by rfl) (by rfl) fun h => by cases h
    · have h2 : (9223372036854775808 : Int) ≤ (v : Int) := by omega
      have hno : neg = false → ∀ k, k < 9223372036854775808 → s.data.toList ≠ digs B k := fun _ k hk e => by
        have := digs_some hB hv hk e
        omega
      cases neg with
      | false =>
        simp -implicitDefEqProofs (disch := first | assumption | (simp only [wnA]; done) | (simp only [wnA]; omega) | omega | fail) [wkA, retV, stabOk, dC, ev, fillD, pickCells, putAt, bnd, slD, List.getElem?_cons_zero, List.getElem?_cons_succ, dR.eq_20, Mem.cell, Mem.row, wmA, t8, h2, w4, w5]
        exact he _ m1 _ 1 o1 (by rfl) (by rfl) (.inl rfl) hno
      | true =>
        by_cases h3 : (9223372036854775808 : Int) < (v : Int)
        · simp -implicitDefEqProofs (disch := first | assumption | (simp only [wnA]; done) | (simp only [wnA]; omega) | omega | fail) [wkA, retV, stabOk, dC, ev, fillD, pickCells, putAt, bnd, slD, List.getElem?_cons_zero, List.getElem?_cons_succ, dR.eq_20, Mem.cell, Mem.row, wmA, t8, h2, h3]
          exact he _ m1 _ 1 o1 (by rfl) (by rfl) (.inl rfl) hno
        · simp -implicitDefEqProofs (disch := first | assumption | (simp only [wnA]; done) | (simp only [wnA]; omega) | omega | fail) [wkA, retV, stabOk, dC, ev, fillD, pickCells, putAt, bnd, slD, List.getElem?_cons_zero, List.getElem?_cons_succ, dR.eq_20, Mem.cell, Mem.row, wmA, t8, h2, h3, rc111_1, rc111_0]
          exact hq _ m1 _ o1 (by rfl) (by rfl) fun h => by cases h
theorem c_iPI {w0 : World} {m : Mem} {B : Nat} {s : ByteArray} {Q : Value → Mem → Prop} (hB : B = 8 ∨ B = 10 ∨ B = 16) (hs : s.size ≤ 140737488355328)
    (he : ∀ m' n c, Old m m' → (c = 1 ∨ c = 2) → (∀ k, k < 9223372036854775808 → s.data.toList ≠ digs B k) → Q (.tuple ⟨[.int .i64 n, .iface 192 (.int .i64 c)]⟩) m')
    (hq : ∀ m' n, Old m m' → (∀ k, k < 9223372036854775808 → s.data.toList = digs B k → n = (k : Int)) → Q (.tuple ⟨[.int .i64 n, .nilIface]⟩) m') :
    AbC Tryz.prog w0 111 [.string s, .int .i64 (B : Int), .int .i64 64] m Q := by
  refine AbC_fn ok111 (by simp) ?_
  simp -implicitDefEqProofs (disch := first | assumption | (simp only [wnA]; done) | (simp only [wnA]; omega) | omega | fail) [rc111, ro111, wkA, retV, stabOk, dC, ev, fillD, pickCells, putAt, bnd, slD, List.getElem?_cons_zero, List.getElem?_cons_succ, dR.eq_20, Mem.cell, Mem.row, wmA]
  have rt : ∀ (ts' : Fr) (m' : Mem) (n c : Int), Old m m' → ts' 6 = .int .i64 n → ts' 7 = .iface 192 (.int .i64 c) → (c = 1 ∨ c = 2) → (∀ k, k < 9223372036854775808 → s.data.toList ≠ digs B k) → bodyA ro111 Q .ret ts' m' := fun ts' m' n c o e6 e7 hc hn => by
    simp -implicitDefEqProofs (disch := first | assumption | (simp only [wnA]; done) | (simp only [wnA]; omega) | omega | fail) [ro111, wkA, retV, stabOk, dC, ev, fillD, pickCells, putAt, bnd, slD, List.getElem?_cons_zero, List.getElem?_cons_succ, dR.eq_20, Mem.cell, Mem.row, wmA, e6, e7]
    exact he m' n c o hc hn
  have rq : ∀ (ts' : Fr) (m' : Mem) (n : Int), Old m m' → ts' 6 = .int .i64 n → ts' 7 = .nilIface → (∀ k, k < 9223372036854775808 → s.data.toList = digs B k → n = (k : Int)) → bodyA ro111 Q .ret ts' m' := fun ts' m' n o e6 e7 hn => by
    simp -implicitDefEqProofs (disch := first | assumption | (simp only [wnA]; done) | (simp only [wnA]; omega) | omega | fail) [ro111, wkA, retV, stabOk, dC, ev, fillD, pickCells, putAt, bnd, slD, List.getElem?_cons_zero, List.getElem?_cons_succ, dR.eq_20, Mem.cell, Mem.row, wmA, e6, e7]
    exact hq m' n o hn
  simp only [ro111] at rt rq
  have hsz : s.data.toList.length = s.size := by simp
  rcases hl : s.data.toList with _ | ⟨c, r⟩
  · have h0 : s.size = 0 := by rw [hl] at hsz; simpa using hsz.symm
    have hem : s.data.isEmpty = true := Array.isEmpty_iff_size_eq_zero.2 h0
    simp -implicitDefEqProofs (disch := first | assumption | (simp only [wnA]; done) | (simp only [wnA]; omega) | omega | fail) [wkA, retV, stabOk, dC, ev, fillD, pickCells, putAt, bnd, slD, List.getElem?_cons_zero, List.getElem?_cons_succ, dR.eq_20, Mem.cell, Mem.row, wmA, hem]
    refine he m 0 2 (Old.refl m) (.inr rfl) fun k _ e => ?_
    have := digs_pos B k
    rw [← e, hl] at this
    simp at this
  · have h0 : s.size ≠ 0 := by rw [hl] at hsz; simp at hsz; omega
    have hem : s.data.isEmpty = false := by
      cases hx : s.data.isEmpty with
      | false => rfl
      | true => exact (h0 (Array.isEmpty_iff_size_eq_zero.1 hx)).elim
    have hlt0 : 0 < s.size := by omega
    have hb1 : (1 : Int) ≤ (s.size : Int) := by omega
    have hb2 : 1 ≤ s.size := hlt0
    have t43 : (43 : UInt8).toNat = 43 := rfl
    have t45 : (45 : UInt8).toNat = 45 := rfl
    have hc0 : s[0]'hlt0 = c := by
      have h1 : s[0]'hlt0 = s.data.toList[0]'(by rw [hl]; simp) := by simp; rfl
      rw [h1]
      simp [hl]
    have nosgn : (c = 43 ∨ c = 45) → ∀ k, k < 9223372036854775808 → s.data.toList ≠ digs B k := fun h k _ e => by
      have := digs_sgn (B := B) (by omega) k c (by rw [← e, hl]; simp)
      rcases h with rfl | rfl
      · exact this.1 rfl
      · exact this.2 rfl
    have hx : (s.extract 1 s.size).size ≤ 140737488355328 := by simp; omega
    by_cases h43 : c = 43
    · subst h43
      simp -implicitDefEqProofs (disch := first | assumption | (simp only [wnA]; done) | (simp only [wnA]; omega) | omega | fail) [wkA, retV, stabOk, dC, ev, fillD, pickCells, putAt, bnd, slD, List.getElem?_cons_zero, List.getElem?_cons_succ, dR.eq_20, Mem.cell, Mem.row, wmA, hem, rc111_6, hc0, hb1, hb2, t43, t45]
      refine w_PItail (neg := false) hB hx (by simp) (by simp [frA_at]) (by simp [frA_at]) (by simp) (fun ts' m' n c o e6 e7 hc _ => rt ts' m' n c o e6 e7 hc (nosgn (.inl rfl))) fun ts' m' n o e6 e7 _ => rq ts' m' n o e6 e7 fun k hk e => (nosgn (.inl rfl) k hk e).elim
    · by_cases h45 : c = 45
      · subst h45
        simp -implicitDefEqProofs (disch := first | assumption | (simp only [wnA]; done) | (simp only [wnA]; omega) | omega | fail) [wkA, retV, stabOk, dC, ev, fillD, pickCells, putAt, bnd, slD, List.getElem?_cons_zero, List.getElem?_cons_succ, dR.eq_20, Mem.cell, Mem.row, wmA, hem, rc111_6, hc0, hb1, hb2, t43, t45]
        refine w_PItail (neg := true) hB hx (by simp) (by simp [frA_at]) (by simp [frA_at]) (by simp) (fun ts' m' n c o e6 e7 hc _ => rt ts' m' n c o e6 e7 hc (nosgn (.inr rfl))) fun ts' m' n o e6 e7 _ => rq ts' m' n o e6 e7 fun k hk e => (nosgn (.inr rfl) k hk e).elim
      · have i43 : ¬ (c.toNat : Int) = 43 := fun h => h43 (UInt8.toNat_inj.1 (by show c.toNat = 43; omega))
        have i45 : ¬ (c.toNat : Int) = 45 := fun h => h45 (UInt8.toNat_inj.1 (by show c.toNat = 45; omega))
        simp -implicitDefEqProofs (disch := first | assumption | (simp only [wnA]; done) | (simp only [wnA]; omega) | omega | fail) [wkA, retV, stabOk, dC, ev, fillD, pickCells, putAt, bnd, slD, List.getElem?_cons_zero, List.getElem?_cons_succ, dR.eq_20, Mem.cell, Mem.row, wmA, hem, rc111_6, hc0, beqF i43, beqF i45]
        refine w_PItail (neg := false) hB hs (by simp [frA_at]) (by simp [frA_at]) (by simp [frA_at]) (by simp) (fun ts' m' n c o e6 e7 hc hn => rt ts' m' n c o e6 e7 hc (hn rfl)) fun ts' m' n o e6 e7 hn => rq ts' m' n o e6 e7 (hn rfl)
theorem c_ParseInt {w0 : World} {m : Mem} {B : Nat} {s : ByteArray} {Q : Value → Mem → Prop} (hE : ErrV w0) (hB : B = 8 ∨ B = 10 ∨ B = 16) (hs : s.size ≤ 140737488355328)
    (he : ∀ m' n p, Old m m' → (∀ k, k < 9223372036854775808 → s.data.toList ≠ digs B k) → Q (.tuple ⟨[.int .i64 n, .iface 195 p]⟩) m')
    (hq : ∀ m' n, Old m m' → (∀ k, k < 9223372036854775808 → s.data.toList = digs B k → n = (k : Int)) → Q (.tuple ⟨[.int .i64 n, .nilIface]⟩) m') :
    AbC Tryz.prog w0 91 [.string s, .int .i64 (B : Int), .int .i64 64] m Q := by
  refine AbC_fn ok91 (by simp) ?_
  simp -implicitDefEqProofs (disch := first | assumption | (simp only [wnA]; done) | (simp only [wnA]; omega) | omega | fail) [rc91, ro91, wkA, retV, stabOk, dC, ev, fillD, pickCells, putAt, bnd, slD, List.getElem?_cons_zero, List.getElem?_cons_succ, dR.eq_20, Mem.cell, Mem.row, wmA]
  refine c_iPI hB hs (fun m1 v c o1 hc hn => ?_) fun m1 v o1 hv => ?_
  · simp -implicitDefEqProofs (disch := first | assumption | (simp only [wnA]; done) | (simp only [wnA]; omega) | omega | fail) [wkA, retV, stabOk, dC, ev, fillD, pickCells, putAt, bnd, slD, List.getElem?_cons_zero, List.getElem?_cons_succ, dR.eq_20, Mem.cell, Mem.row, wmA]
    refine c_toError hE hc hs ?_
    simp -implicitDefEqProofs (disch := first | assumption | (simp only [wnA]; done) | (simp only [wnA]; omega) | omega | fail) [wkA, retV, stabOk, dC, ev, fillD, pickCells, putAt, bnd, slD, List.getElem?_cons_zero, List.getElem?_cons_succ, dR.eq_20, Mem.cell, Mem.row, wmA]
    exact he _ v _ (o1.push _) hn
  · simp -implicitDefEqProofs (disch := first | assumption | (simp only [wnA]; done) | (simp only [wnA]; omega) | omega | fail) [wkA, retV, stabOk, dC, ev, fillD, pickCells, putAt, bnd, slD, List.getElem?_cons_zero, List.getElem?_cons_succ, dR.eq_20, Mem.cell, Mem.row, wmA, rc91_0]
    exact hq m1 v o1 hv
end Go.Proofs.YthmhappejchilaaGreatDoor.Ab

set_option linter.unusedVariables false
set_option linter.unusedSimpArgs false
namespace Go.Proofs.YthmhappejchilaaGreatDoor.Ab
open Go
theorem ixB_cases (c : UInt8) : ∀ l : List UInt8, (Lib.indexByte l c = -1 ∧ c ∉ l) ∨ ∃ a r, l = a ++ c :: r ∧ c ∉ a ∧ Lib.indexByte l c = (a.length : Nat)
  | [] => .inl ⟨rfl, by simp⟩
  | b :: l => by
    unfold Lib.indexByte
    by_cases h : b = c
    · subst h
      exact .inr ⟨[], l, rfl, by simp, by simp⟩
    · have hb : (b == c) = false := by simpa using h
      simp only [hb, Bool.false_eq_true, if_false]
      rcases ixB_cases c l with ⟨h1, h2⟩ | ⟨a, r, h1, h2, h3⟩
      · refine .inl ⟨by rw [h1]; rfl, ?_⟩
        simp only [List.mem_cons, not_or]
        exact ⟨fun e => h e.symm, h2⟩
      · refine .inr ⟨b :: a, r, by rw [h1]; rfl, ?_, ?_⟩
        · simp only [List.mem_cons, not_or]
          exact ⟨fun e => h e.symm, h2⟩
        · rw [h3]
          have : ((a.length : Int) == -1) = false := by simp
          rw [this]
          simp
theorem ixB_hit {c : UInt8} {a r : List UInt8} (h : c ∉ a) : Lib.indexByte (a ++ c :: r) c = (a.length : Nat) := by
  rcases ixB_cases c (a ++ c :: r) with ⟨-, h2⟩ | ⟨a', r', h1, h2, h3⟩
  · exact (h2 (by simp)).elim
  · rw [h3]
    congr 1
    have key : ∀ (a a' r r' : List UInt8), c ∉ a → c ∉ a' → a ++ c :: r = a' ++ c :: r' → a'.length = a.length := by
      intro a
      induction a with
      | nil =>
        intro a' r r' h1 h2 h
        cases a' with
        | nil => rfl
        | cons x a' => simp at h; simp [h.1] at h2
      | cons x a ih =>
        intro a' r r' h1 h2 h
        cases a' with
        | nil => simp at h; simp [h.1] at h1
        | cons y a' =>
          simp at h h1 h2
          simp [ih a' r r' h1.2 h2.2 h.2]
    exact key a a' r r' h h2 h1
/-- The pieces, put together again. -/
def joinC (c : UInt8) : List (List UInt8) → List UInt8
  | [] => []
  | [a] => a
  | a :: b :: l => a ++ c :: joinC c (b :: l)
theorem splitK_ne {c : UInt8} {k : Nat} {s : List UInt8} : ∃ a l, Lib.splitK [c] 0 k s = a :: l := by
  cases k with
  | zero => exact ⟨_, _, rfl⟩
  | succ k =>
    unfold Lib.splitK
    split
    · exact ⟨_, _, rfl⟩
    · exact ⟨_, _, rfl⟩
theorem splitK_join {c : UInt8} : ∀ (k : Nat) (s : List UInt8), joinC c (Lib.splitK [c] 0 k s) = s
  | 0, s => rfl
  | k + 1, s => by
    unfold Lib.splitK
    rw [Lib.index_one]
    rcases ixB_cases c s with ⟨h1, h2⟩ | ⟨a, r, h1, h2, h3⟩
    · rw [h1]; rfl
    · rw [h3]
      have : ((a.length : Int) == -1) = false := by simp
      rw [this]
      obtain ⟨x, l, hx⟩ := splitK_ne (c := c) (k := k) (s := s.drop (((a.length : Nat) : Int).toNat + [c].length))
      have ih := splitK_join (c := c) k (s.drop (((a.length : Nat) : Int).toNat + [c].length))
      rw [hx] at ih
      simp only [Bool.false_eq_true, if_false, hx, joinC, ih]
      subst h1
      simp
theorem splitK_hit {c : UInt8} {k : Nat} {a r : List UInt8} (h : c ∉ a) : Lib.splitK [c] 0 (k + 1) (a ++ c :: r) = a :: Lib.splitK [c] 0 k r := by
  show (if Lib.index (a ++ c :: r) [c] == -1 then [a ++ c :: r] else (a ++ c :: r).take ((Lib.index (a ++ c :: r) [c]).toNat + 0) :: Lib.splitK [c] 0 k ((a ++ c :: r).drop ((Lib.index (a ++ c :: r) [c]).toNat + [c].length))) = _
  rw [Lib.index_one, ixB_hit h]
  have : ((a.length : Int) == -1) = false := by simp
  rw [this]
  simp only [Bool.false_eq_true, if_false]
  have h1 : ((a.length : Int)).toNat = a.length := by omega
  rw [h1]
  have h2 : (a ++ c :: r).drop (a.length + [c].length) = r := by
    rw [show a.length + [c].length = (a ++ [c]).length from by simp]
    rw [show a ++ c :: r = (a ++ [c]) ++ r from by simp, List.drop_left]
  rw [h2]
  simp
theorem splitK_zero {c : UInt8} {s : List UInt8} : Lib.splitK [c] 0 0 s = [s] := rfl
/-- What lies ahead of the bytes that are trimmed. -/
theorem trim_cases (c : UInt8) (l : List UInt8) : ∃ k, l = Lib.trimRightB l c ++ List.replicate k c := by
  unfold Lib.trimRightB
  have key : ∀ l : List UInt8, ∃ k, l = List.replicate k c ++ l.dropWhile (· == c) := by
    intro l
    induction l with
    | nil => exact ⟨0, rfl⟩
    | cons b l ih =>
      by_cases h : b = c
      · subst h
        obtain ⟨k, hk⟩ := ih
        refine ⟨k + 1, ?_⟩
        simp only [List.dropWhile_cons, beq_self_eq_true, if_true, List.replicate_succ, List.cons_append]
        rw [← hk]
      · have hb : (b == c) = false := by simpa using h
        exact ⟨0, by simp [List.dropWhile_cons, hb]⟩
  obtain ⟨k, hk⟩ := key l.reverse
  refine ⟨k, ?_⟩
  have := congrArg List.reverse hk
  rw [List.reverse_reverse, List.reverse_append, List.reverse_replicate] at this
  exact this
theorem trim_pad {c x : UInt8} {a : List UInt8} (h : x ≠ c) (k : Nat) : Lib.trimRightB (a ++ x :: List.replicate k c) c = a ++ [x] := by
  unfold Lib.trimRightB
  have e : (a ++ x :: List.replicate k c).reverse = List.replicate k c ++ x :: a.reverse := by simp
  rw [e]
  have key : ∀ k, (List.replicate k c ++ x :: a.reverse).dropWhile (· == c) = x :: a.reverse := by
    intro k
    induction k with
    | zero =>
      have hb : (x == c) = false := by simpa using h
      simp [List.dropWhile_cons, hb]
    | succ k ih => simpa [List.replicate_succ, List.dropWhile_cons] using ih
  rw [key]
  simp
end Go.Proofs.YthmhappejchilaaGreatDoor.Ab
