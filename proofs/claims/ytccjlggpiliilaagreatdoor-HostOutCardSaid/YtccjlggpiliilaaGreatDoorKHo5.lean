/- Parts of a proof, put together: What sends; blocks; prints (what the host needs). -/
import Derived.Test.YtccjlggpiliilaaGreatDoorKHo4
import Derived.Test.YtccjlggpiliilaaGreatDoorProg
import Derived.WalkKit
import Derived.LaidEql
import Derived.Stop.Asserts
import Derived.RowKitTokens
import Derived.KernelRfl
set_option linter.unusedVariables false
set_option linter.unusedSimpArgs false
namespace Go.Proofs.YtccjlggpiliilaaGreatDoor.Ab
open Go Go.RowKit
set_option maxHeartbeats 4000000
set_option maxRecDepth 100000
noncomputable def trailL (d : List UInt8) (crc : Bool) : List UInt8 := if crc then [UInt8.ofNat (crcN d / 256),UInt8.ofNat (crcN d % 256)] else [UInt8.ofNat (chkN d)]
def trN (crc : Bool) : Nat := if crc then 2 else 1
theorem trail_len (d : List UInt8) (crc : Bool) : (trailL d crc).length = trN crc := by cases crc <;> rfl
theorem ofN8 {z : Nat} (h : z < 256) : (UInt8.ofNat z).toNat = z := by simp; omega
theorem c_trailer {w0 : World} {m : Mem} {v : Value} {d : List UInt8} {crc : Bool} {Q : Value → Mem → Prop} (hv : SlR m 1 v (d.map byteV) d.length) (hL : d.length ≤ maxLen)
    (hq : Q (.slice (some ⟨m.next,0,none⟩) (trN crc) 1) (m.push (.own ((trailL d crc).map byteV) 5))) : AbC Tryz.prog w0 173 [v,.bool crc] m Q := by
  refine AbC_fn ok173 (by simp) ?_
  cases crc with
  | false =>
    simp -implicitDefEqProofs (disch := first | assumption | (simp only [wnA]; done) | (simp only [wnA]; omega) | omega) [rc173,ro173,wkA,rtZ,sbZ,dC,ev,fiZ,pkZ,putAt,bnd,slD,gZ0,gZ1,dR_sl,Mem.cell,Mem.row,wmA]
    refine c_Chk hv hL ?_
    have hlt := chkN_lt d
    simp only [trailL,trN,byteV,List.map_cons,List.map_nil,Bool.false_eq_true,if_false] at hq
    rw [ofN8 hlt] at hq
    simp -implicitDefEqProofs (disch := first | assumption | (simp only [wnA]; done) | (simp only [wnA]; omega) | omega) [wkA,rtZ,sbZ,dC,ev,fiZ,pkZ,putAt,bnd,slD,gZ0,gZ1,dR_sl,Mem.cell,Mem.row,wmA]
    rw [SK_bsl (cs := [.int .u8 (chkN d : Nat)]) (by simp [fiZ,pkZ,wkA,rtZ,sbZ,dC,ev,fiZ,pkZ,putAt,bnd,slD,gZ0,gZ1,dR_sl]) (by simp)]
    simp -implicitDefEqProofs (disch := first | assumption | (simp only [wnA]; done) | (simp only [wnA]; omega) | omega) [wkA,rtZ,sbZ,dC,ev,fiZ,pkZ,putAt,bnd,slD,gZ0,gZ1,dR_sl,Mem.cell,Mem.row,wmA]
    exact hq
  | true =>
    simp -implicitDefEqProofs (disch := first | assumption | (simp only [wnA]; done) | (simp only [wnA]; omega) | omega) [rc173,ro173,rc173_0,wkA,rtZ,sbZ,dC,ev,fiZ,pkZ,putAt,bnd,slD,gZ0,gZ1,dR_sl,Mem.cell,Mem.row,wmA]
    refine c_Crc hv hL ?_
    have hlt := crcN_lt d
    have q1 : dBin .shr (.int .u16 (crcN d : Nat)) (.int .u64 8) = some (.int .u16 ((crcN d / 256 : Nat) : Int)) := by
      have h1 := shI_eq (op := .shr) (k := .u16) (k' := .u64) (a := Int.ofNat (crcN d)) (b := Int.ofNat 8) (v := .int .u16 (Int.ofNat (Nat.shiftRight (crcN d) 8))) (by
        simp only [shI]
        rw [Nat.ble_eq_true_of_le (show 8 ≤ kBits .u16 by simp only [kBits]; omega)])
      have h2 : Nat.shiftRight (crcN d) 8 = crcN d / 256 := Nat.shiftRight_eq_div_pow (crcN d) 8
      rw [h2] at h1
      exact h1
    have w1 : IntKind.u8.wrap ((crcN d / 256 : Nat) : Int) = ((crcN d / 256 : Nat) : Int) := w8 (by omega)
    have w2 : IntKind.u8.wrap (crcN d : Int) = ((crcN d % 256 : Nat) : Int) := by
      simp only [IntKind.wrap,IntKind.bits,IntKind.signed]
      simp
    simp only [trailL,trN,byteV,List.map_cons,List.map_nil,if_true] at hq
    rw [ofN8 (show crcN d / 256 < 256 by omega),ofN8 (show crcN d % 256 < 256 by omega)] at hq
    generalize crcN d / 256 = a at *
    generalize crcN d % 256 = b at *
    generalize crcN d = c at *
    simp -implicitDefEqProofs (disch := first | assumption | (simp only [wnA]; done) | (simp only [wnA]; omega) | omega) [rc173_0,wkA,rtZ,sbZ,dC,ev,fiZ,pkZ,putAt,bnd,slD,gZ0,gZ1,dR_sl,Mem.cell,Mem.row,wmA,q1,w1,w2]
    rw [SK_bsl (cs := [.int .u8 (a : Nat),.int .u8 (b : Nat)]) (by simp [fiZ,pkZ,wkA,rtZ,sbZ,dC,ev,fiZ,pkZ,putAt,bnd,slD,gZ0,gZ1,dR_sl,w1,w2]) (by simp)]
    simp -implicitDefEqProofs (disch := first | assumption | (simp only [wnA]; done) | (simp only [wnA]; omega) | omega) [wkA,rtZ,sbZ,dC,ev,fiZ,pkZ,putAt,bnd,slD,gZ0,gZ1,dR_sl,Mem.cell,Mem.row,wmA]
    exact hq
noncomputable def blkL (no : UInt8) (d : List UInt8) (crc : Bool) : List UInt8 := (if d.length = 128 then 1 else 2) :: no :: (255 - no) :: (d ++ trailL d crc)
theorem blk_len (no : UInt8) (d : List UInt8) (crc : Bool) : (blkL no d crc).length = 3 + d.length + trN crc := by
  simp only [blkL,List.length_cons,List.length_append,trail_len]; omega
theorem xor255 : ∀ n : Fin 256,255 ^^^ n.val = 255 - n.val := by decide +kernel
theorem com8 (c : UInt8) : IntKind.u8.wrap ((((if IntKind.u8.signed = true then (-1 : Int) else IntKind.u8.max) % 2 ^ IntKind.u8.bits).toNat ^^^ c.toNat % 2 ^ IntKind.u8.bits : Nat) : Int) = ((255 - c).toNat : Int) := by
  have hc := c.toNat_lt
  have e1 : ((if IntKind.u8.signed = true then (-1 : Int) else IntKind.u8.max) % 2 ^ IntKind.u8.bits).toNat = 255 := by rfl
  have e2 : c.toNat % 2 ^ IntKind.u8.bits = c.toNat := Nat.mod_eq_of_lt (by show c.toNat < 256; omega)
  have e3 := xor255 ⟨c.toNat,by omega⟩
  have e4 : (255 - c).toNat = 255 - c.toNat := by
    rw [UInt8.toNat_sub]
    have : (255 : UInt8).toNat = 255 := rfl
    omega
  simp only at e3
  rw [e1,e2,e3,e4,w8 (by omega)]
theorem c_bMake {w0 : World} {X : Nat → Prop} {m : Mem} {v : Value} {no : UInt8} {d : List UInt8} {crc : Bool} {Q : Value → Mem → Prop} (hp : Part L0 m) (hr : RdV X m 1 v (d.map byteV) d.length) (hL : d.length = 128 ∨ d.length = 1024)
    (hq : ∀ m' b,Old m m' → m.next ≤ b → b < m'.next → m'.get b = .own ((blkL no d crc).map byteV) 5 → Q (.tuple ⟨[.slice (some ⟨b,0,none⟩) (blkL no d crc).length 1,.bool true]⟩) m') :
    AbC Tryz.prog w0 172 [.agg ⟨[.int .u8 (no.toNat : Int),v]⟩,.bool crc] m Q := by
  refine AbC_fn ok172 (by simp) ?_
  obtain ⟨lead,hlead⟩ : ∃ lead : UInt8,lead = if d.length = 128 then 1 else 2 := ⟨_,rfl⟩
  have hcv := com8 no
  have h0 := Sep.ofOld hp
  have h1 := h0.push (.own [.int .u8 (no.toNat : Int),v] 221)
  have hrr := hr.o
  have key : ∀ (fr : Fr),fr 1 = .bool crc → fr 2 = .pointer (some ⟨m.next,0,none⟩) → fr 6 = .int .u8 (lead.toNat : Int) →
      AbW Tryz.prog w0 rc172_0 (bodyA [.mv (.tmp 4),.mv (.tmp 5)] Q) fr (m.push (.own [.int .u8 (no.toNat : Int),v] 221)) := by
    intro fr t1 t2 t6
    obtain ⟨m1,hm1⟩ : ∃ m1,m.push (.own [.int .u8 (no.toNat : Int),v] 221) = m1 := ⟨_,rfl⟩
    have n1 : m1.next = m.next + 1 := by subst hm1; rfl
    rw [hm1] at h1 ⊢
    clear hm1
    have g1 := h1.get 0 rfl
    simp -implicitDefEqProofs (disch := first | assumption | (simp only [wnA]; done) | (simp only [wnA]; omega) | omega) [rc172_0,wkA,rtZ,sbZ,dC,ev,fiZ,pkZ,putAt,bnd,slD,gZ0,gZ1,dR_sl,Mem.cell,Mem.row,wmA,t1,t2,t6,hcv,g1]
    refine SK_bslS h1 (cs := [lead,no,255 - no].map byteV) (by simp [fiZ,pkZ,wkA,rtZ,sbZ,dC,ev,fiZ,pkZ,putAt,bnd,slD,gZ0,gZ1,dR_sl,t6,hcv,byteV,g1]) (by simp) fun b m2 h2 hb n2 => ?_
    have g2 := h2.get 1 rfl
    simp -implicitDefEqProofs (disch := first | assumption | (simp only [wnA]; done) | (simp only [wnA]; omega) | omega) [wkA,rtZ,sbZ,dC,ev,fiZ,pkZ,putAt,bnd,slD,gZ0,gZ1,dR_sl,Mem.cell,Mem.row,wmA,t1,t2,t6,hcv,g2]
    have hr2 := (hrr.sep h2).sl
    refine SK_apS h2 0 (n := 3) (k := d.length) (ys := d.map byteV) rfl (by simp [wkA,rtZ,sbZ,dC,ev,fiZ,pkZ,putAt,bnd,slD,gZ0,gZ1,dR_sl,slV]) (by simp) (by simp) (by simp [wkA,rtZ,sbZ,dC,ev,fiZ,pkZ,putAt,bnd,slD,gZ0,gZ1,dR_sl]; exact hr2.elems) (by simp [wkA,rtZ,sbZ,dC,ev,fiZ,pkZ,putAt,bnd,slD,gZ0,gZ1,dR_sl]; exact hr2.lenV) (byteV_oneC _) (by omega) (by unfold maxLen; omega) (by simp) fun ob3 m3 h3 hn3 _ => ?_
    have g3 := h3.get 1 rfl
    have hr3 := (hrr.sep h3).sl
    simp -implicitDefEqProofs (disch := first | assumption | (simp only [wnA]; done) | (simp only [wnA]; omega) | omega) [wkA,rtZ,sbZ,dC,ev,fiZ,pkZ,putAt,bnd,slD,gZ0,gZ1,dR_sl,Mem.cell,Mem.row,wmA,t1,t2,t6,hcv,g3]
    refine c_trailer hr3 (by unfold maxLen; omega) ?_
    have h4 := h3.push (.own ((trailL d crc).map byteV) 5)
    obtain ⟨m4,hm4⟩ : ∃ m4,m3.push (.own ((trailL d crc).map byteV) 5) = m4 := ⟨_,rfl⟩
    rw [hm4] at h4 ⊢
    obtain ⟨b4,hb4⟩ : ∃ b4,m3.next = b4 := ⟨_,rfl⟩
    rw [hb4] at h4 ⊢
    have hl4 := trail_len d crc
    have hr4 := (h4.slO 0 (k := trN crc) (sz := 1) rfl (by simp [hl4]) (fun h => by cases h)).read
    have htr : 1 ≤ trN crc ∧ trN crc ≤ 2 := by cases crc <;> decide
    simp -implicitDefEqProofs (disch := first | assumption | (simp only [wnA]; done) | (simp only [wnA]; omega) | omega) [wkA,rtZ,sbZ,dC,ev,fiZ,pkZ,putAt,bnd,slD,gZ0,gZ1,dR_sl,Mem.cell,Mem.row,wmA,t1,t2,t6,hcv]
    refine SK_apS h4 1 (n := 3 + d.length) (k := trN crc) (ys := (trailL d crc).map byteV) rfl (by simp [wkA,rtZ,sbZ,dC,ev,fiZ,pkZ,putAt,bnd,slD,gZ0,gZ1,dR_sl]) (by simp; omega) hn3 (by simp [wkA,rtZ,sbZ,dC,ev,fiZ,pkZ,putAt,bnd,slD,gZ0,gZ1,dR_sl]; exact hr4.elems) (by simp [wkA,rtZ,sbZ,dC,ev,fiZ,pkZ,putAt,bnd,slD,gZ0,gZ1,dR_sl,lenV]) (byteV_oneC _) (by omega) (by unfold maxLen; omega) (by simp [hl4]) fun ob5 m5 h5 hn5 _ => ?_
    simp -implicitDefEqProofs (disch := first | assumption | (simp only [wnA]; done) | (simp only [wnA]; omega) | omega) [wkA,rtZ,sbZ,dC,ev,fiZ,pkZ,putAt,bnd,slD,gZ0,gZ1,dR_sl,Mem.cell,Mem.row,wmA]
    cases ob5 with
    | none => exact absurd (hn5 rfl) (by omega)
    | some b5 =>
      have e5 : [lead,no,255 - no].map byteV ++ d.map byteV ++ (trailL d crc).map byteV = (blkL no d crc).map byteV := by
        rw [blkL,← hlead]; simp
      have h5 := h5
      have g5 := h5.get 1 rfl
      rw [e5] at g5
      have := hq m5 b5 h5.toOld (by have := h5.nv 1 rfl; omega) (h5.lt 1 rfl) g5
      rw [blk_len] at this
      exact this
  rcases hL with hL | hL
  · rw [if_pos hL] at hlead
    subst hlead
    have hs := hr.sl.slen
    rw [hL] at hs
    simp -implicitDefEqProofs (disch := first | assumption | (simp only [wnA]; done) | (simp only [wnA]; omega) | omega) [rc172,ro172,wkA,rtZ,sbZ,dC,ev,fiZ,pkZ,putAt,bnd,slD,gZ0,gZ1,dR_sl,Mem.cell,Mem.row,wmA,hs]
    exact key _ (by simp [frA_at]) (by simp) (by first | rfl | simp)
  · rw [if_neg (by omega)] at hlead
    subst hlead
    have hs := hr.sl.slen
    rw [hL] at hs
    simp -implicitDefEqProofs (disch := first | assumption | (simp only [wnA]; done) | (simp only [wnA]; omega) | omega) [rc172,ro172,wkA,rtZ,sbZ,dC,ev,fiZ,pkZ,putAt,bnd,slD,gZ0,gZ1,dR_sl,Mem.cell,Mem.row,wmA,hs]
    exact key _ (by simp [frA_at]) (by simp) (by first | rfl | simp)
theorem b8 (c : UInt8) (k : Nat) (hk : k < 256) : ((c.toNat : Int) == (k : Int)) = decide (c = UInt8.ofNat k) := by
  by_cases h : c = UInt8.ofNat k
  · subst h
    have : (UInt8.ofNat k).toNat = k := by simp; omega
    simp [this]
  · have : c.toNat ≠ k := fun e => h (by rw [← e]; simp)
    simp [h]; omega
theorem RdV.ex {X : Nat → Prop} {m : Mem} {n : Nat} {v : Value} {cs : List Value} (h : RdV X m 1 v cs n) (hn : 0 < n) : ∃ i o L,v = .slice (some ⟨i,o,none⟩) n 1 ∧ (m.get i).cells? = some L ∧ o + n ≤ L.length ∧ (∀ k,k < n → L[o + k]? = cs[k]?) ∧ i < m.next ∧ X i := by
  obtain ⟨i,o,L,rfl,h2,h3,-,h5⟩ := h.sl.at hn
  obtain ⟨_,h6⟩ := h.sl
  rcases h6 with ⟨h7,_⟩ | ⟨i',o',L',h8,h9,h10,h11⟩
  · omega
  · cases h8
    rw [h2] at h9
    cases h9
    have hb := h.bl i rfl
    exact ⟨i,o,L,rfl,h2,by omega,fun k hk => by rw [← h11,Nat.mul_one,List.getElem?_take,if_pos hk,List.getElem?_drop],hb.1,hb.2⟩
theorem byte_at {b : List UInt8} {k : Nat} (hk : k < b.length) : (b.map byteV)[k]? = some (byteV (b.getD k 0)) := by
  rw [List.getElem?_map,List.getElem?_eq_getElem hk,List.getD_eq_getElem?_getD,List.getElem?_eq_getElem hk]; rfl
def errV (n : Nat) : Value := match n with
  | 0 => .nilIface
  | k + 1 => .iface 44 (.int .i64 ((k + 1 : Nat) : Int))
theorem cellsV_errV (n : Nat) : cellsV (errV n) = [errV n] := by cases n <;> rfl
theorem oneC_errV (n : Nat) : oneC (errV n) = true := by cases n <;> rfl
def clampI (lo hi x : Int) : Int := if lo < (if hi < x then hi else x) then (if hi < x then hi else x) else lo
def prStep (r : Nat × Nat) (c : UInt8) : Nat × Nat := ((r.1 + c.toNat) % 65521,(r.2 + (r.1 + c.toNat) % 65521 + 1) % 65521)
def prL (l : List UInt8) : Nat × Nat := l.foldl prStep (0,0)
def prN (l : List UInt8) : Nat := Nat.lor ((prL l).2 * 65536) (prL l).1
theorem prL_take {l : List UInt8} {j : Nat} (hj : j < l.length) : prL (l.take (j + 1)) = prStep (prL (l.take j)) l[j] := by
  unfold prL
  rw [List.take_add_one,List.getElem?_eq_getElem hj,List.foldl_append]; rfl
theorem prS_lt : ∀ (l : List UInt8) (r : Nat × Nat),r.1 < 65521 → r.2 < 65521 → (l.foldl prStep r).1 < 65521 ∧ (l.foldl prStep r).2 < 65521
  | [],r,h,k => ⟨h,k⟩
  | c :: l,r,h,k => prS_lt l (prStep r c) (Nat.mod_lt _ (by omega)) (Nat.mod_lt _ (by omega))
theorem prL_lt (l : List UInt8) : (prL l).1 < 65521 ∧ (prL l).2 < 65521 := prS_lt l (0,0) (by omega) (by omega)
theorem w32 {z : Nat} (h : z < 4294967296) : IntKind.u32.wrap (z : Int) = (z : Int) := by
  simp only [IntKind.wrap,IntKind.bits,IntKind.signed]
  simp
  omega
theorem rem32 {z : Nat} : dBin .rem (.int .u32 (z : Int)) (.int .u32 65521) = some (.int .u32 ((z % 65521 : Nat) : Int)) := by
  rw [dBin_rem (by omega),Int.tmod_eq_emod_of_nonneg (by omega)]; rfl
theorem c_prW {w0 : World} {V : Nat → Prop} {m : Mem} {ip : Nat} {v : Value} {b : List UInt8} {Q : Value → Mem → Prop} (h : Sep m V m [(some ip,.own [.int .u32 0,.int .u32 0] 96)]) (hr : RdV V m 1 v (b.map byteV) b.length) (hb : b.length ≤ 9223372036854775806)
    (hq : ∀ M,Sep m V M [(some ip,.own [.int .u32 ((prL b).1 : Nat),.int .u32 ((prL b).2 : Nat)] 96)] → Q (.tuple ⟨[]⟩) M) :
    AbC Tryz.prog w0 42 [.pointer (some ⟨ip,0,none⟩),v] m Q := by
  refine AbC_fn ok42 (by simp) ?_
  have hsl := hr.sl.slen
  simp -implicitDefEqProofs (disch := first | assumption | omega) [rc42,ro42,wkB,rtZ,sbZ,dC,ev,fiZ,pkZ,putAt,bnd,slD,gZ0,gZ1,Mem.cell,Mem.row,coZ,crZ,hsl]
  refine LoopW_of (fun k ts m' => ∃ j,j + k = b.length ∧ Sep m V m' [(some ip,.own [.int .u32 ((prL (b.take j)).1 : Nat),.int .u32 ((prL (b.take j)).2 : Nat)] 96)] ∧ ts 0 = .pointer (some ⟨ip,0,none⟩) ∧ ts 6 = v ∧ ts 7 = .int .i64 (b.length : Nat) ∧ ts 8 = .int .i64 (j : Nat)) b.length ?_ ?_
  · exact ⟨0,by omega,by simpa [prL] using h,by simp [frA_at],by simp [frA_at],by simp,by simp⟩
  · rintro k ts m1 K ⟨j,hj,h1,t0,t6,t7,t8⟩ hK
    by_cases hjl : j < b.length
    · have hj8 : (j : Int) < (b.length : Nat) := by omega
      obtain ⟨i,o,L,e1,e2,e3,e4,e5,e6⟩ := (hr.sep h1).ex (by omega)
      have hc : L[o + j]? = some (byteV (b.getD j 0)) := (e4 j hjl).trans (byte_at hjl)
      simp only [byteV] at hc
      have hidx : sidx 1 v (.int .i64 (j : Int)) = some (.pointer (some ⟨i,o + j,none⟩)) := by rw [e1]; simpa using sidx_at (b := i) (o := o) (n := b.length) (c := 1) (j := j) (sz := 1) (k := .i64) hjl
      have w1 : IntKind.i64.wrap ((j : Int) + 1) = (j : Int) + 1 := w64 (by omega)
      have htk := prL_take hjl
      have hlt := prL_lt (b.take j)
      have hgd : b[j] = b.getD j 0 := by rw [List.getD_eq_getElem?_getD,List.getElem?_eq_getElem hjl]; rfl
      rw [hgd] at htk
      generalize b.getD j 0 = c at *
      have hcl := c.toNat_lt
      have g1 := h1.get 0 rfl
      generalize hP : prL (b.take j) = P at *
      obtain ⟨p,q⟩ := P
      simp only [prStep] at htk hlt g1 h1
      have wc : IntKind.u32.wrap (c.toNat : Int) = (c.toNat : Int) := w32 (by omega)
      obtain ⟨z,hz⟩ : ∃ z,p + c.toNat = z := ⟨_,rfl⟩
      have wp : IntKind.u32.wrap ((p : Int) + (c.toNat : Int)) = (z : Int) := by have := w32 (z := z) (by omega); rw [← this,← hz]; simp
      have r1 := rem32 (z := z)
      rw [hz] at htk
      obtain ⟨p',hp'⟩ : ∃ p',z % 65521 = p' := ⟨_,rfl⟩
      rw [hp'] at r1 htk
      have hp2 : p' < 65521 := by rw [← hp']; exact Nat.mod_lt _ (by omega)
      obtain ⟨y,hy⟩ : ∃ y,q + p' = y := ⟨_,rfl⟩
      obtain ⟨y1,hy1⟩ : ∃ y1,y + 1 = y1 := ⟨_,rfl⟩
      have wq : IntKind.u32.wrap ((q : Int) + (p' : Int)) = (y : Int) := by have := w32 (z := y) (by omega); rw [← this,← hy]; simp
      have wy : IntKind.u32.wrap ((y : Int) + 1) = (y1 : Int) := by have := w32 (z := y1) (by omega); rw [← this,← hy1]; simp
      have r2 := rem32 (z := y1)
      rw [hy,hy1] at htk
      obtain ⟨q',hq'⟩ : ∃ q',y1 % 65521 = q' := ⟨_,rfl⟩
      rw [hq'] at r2 htk
      simp -implicitDefEqProofs (disch := first | assumption | omega) [rc42_1,rc42_0,wkB,rtZ,sbZ,dC,ev,fiZ,pkZ,putAt,bnd,slD,gZ0,gZ1,Mem.cell,Mem.row,coZ,crZ,t0,t6,t7,t8,hj8,hidx,e2,hc,getL1 hc,g1,wc,wp,r1]
      refine SK_stS h1 0 rfl (o := 0) (vs := [.int .u32 (p' : Nat)]) (cs' := [.int .u32 (p' : Nat),.int .u32 (q : Nat)]) (by simp [wkB,rtZ,sbZ,dC,ev,fiZ,pkZ,putAt,bnd,slD,gZ0,gZ1,Mem.cell,Mem.row,coZ,crZ]) (by simp [wkB,rtZ,sbZ,dC,ev,fiZ,pkZ,putAt,bnd,slD,gZ0,gZ1,Mem.cell,Mem.row,coZ,crZ]) (by simp) rfl rfl rfl fun m2 h2 n2 => ?_
      have g2 := h2.get 0 rfl
      simp -implicitDefEqProofs (disch := first | assumption | omega) [wkB,rtZ,sbZ,dC,ev,fiZ,pkZ,putAt,bnd,slD,gZ0,gZ1,Mem.cell,Mem.row,coZ,crZ,t0,g2,wq,wy,r2]
      refine SK_stS h2 0 rfl (o := 1) (vs := [.int .u32 (q' : Nat)]) (cs' := [.int .u32 (p' : Nat),.int .u32 (q' : Nat)]) (by simp [wkB,rtZ,sbZ,dC,ev,fiZ,pkZ,putAt,bnd,slD,gZ0,gZ1,Mem.cell,Mem.row,coZ,crZ]) (by simp [wkB,rtZ,sbZ,dC,ev,fiZ,pkZ,putAt,bnd,slD,gZ0,gZ1,Mem.cell,Mem.row,coZ,crZ]) (by simp) rfl rfl rfl fun m3 h3 n3 => ?_
      simp -implicitDefEqProofs (disch := first | assumption | omega) [wkB,rtZ,sbZ,dC,ev,fiZ,pkZ,putAt,bnd,slD,gZ0,gZ1,Mem.cell,Mem.row,coZ,crZ,t8,w1]
      refine hK (k - 1) _ _ (by omega) ⟨j + 1,by omega,by rw [htk]; exact h3,by simp [t0],by simp [t6],by simp [t7],by simp⟩
    · have hjj : j = b.length := by omega
      subst hjj
      have hj8 : ¬ ((b.length : Nat) : Int) < (b.length : Nat) := by omega
      rw [List.take_length] at h1
      simp -implicitDefEqProofs (disch := first | assumption | omega) [rc42_1,wkB,rtZ,sbZ,dC,ev,fiZ,pkZ,putAt,bnd,slD,gZ0,gZ1,Mem.cell,Mem.row,coZ,crZ,t7,t8,hj8]
      exact hq m1 h1
theorem c_Print {w0 : World} {X : Nat → Prop} {m : Mem} {v : Value} {b : List UInt8} {Q : Value → Mem → Prop} (hp : Part L0 m) (hr : RdV X m 1 v (b.map byteV) b.length) (hb : b.length ≤ 9223372036854775806)
    (hq : ∀ M,Old m M → Q (.int .u32 (prN b : Nat)) M) : AbC Tryz.prog w0 17 [v] m Q := by
  refine AbC_fn ok17 (by simp) ?_
  simp -implicitDefEqProofs (disch := first | assumption | omega) [rc17,ro17,wkB,rtZ,sbZ,dC,ev,fiZ,pkZ,putAt,bnd,slD,gZ0,gZ1,Mem.cell,Mem.row,coZ,crZ]
  refine SK_bxS (Sep.ofOld hp) (cs := [.int .u32 0,.int .u32 0]) (by simp [wkB,rtZ,sbZ,dC,ev,fiZ,pkZ,putAt,bnd,slD,gZ0,gZ1,Mem.cell,Mem.row,coZ,crZ]) fun ip m1 h1 _ _ => ?_
  simp -implicitDefEqProofs (disch := first | assumption | omega) [wkB,rtZ,sbZ,dC,ev,fiZ,pkZ,putAt,bnd,slD,gZ0,gZ1,Mem.cell,Mem.row,coZ,crZ]
  refine c_prW h1.self (hr.o.sep h1) hb fun m2 h2 => ?_
  have g2 := h2.get 0 rfl
  simp -implicitDefEqProofs (disch := first | assumption | omega) [wkB,rtZ,sbZ,dC,ev,fiZ,pkZ,putAt,bnd,slD,gZ0,gZ1,Mem.cell,Mem.row,coZ,crZ]
  refine AbC.mono (Q := fun v M => v = .int .u32 (prN b : Nat) ∧ M = m2) ?_ fun v M ⟨e1,e2⟩ => by subst e1 e2; simp -implicitDefEqProofs (disch := first | assumption | omega) [wkB,rtZ,sbZ,dC,ev,fiZ,pkZ,putAt,bnd,slD,gZ0,gZ1,Mem.cell,Mem.row,coZ,crZ]; exact hq M (h1.tr h2).toOld
  refine AbC_fn ok43 (by simp) ?_
  have hlt := prL_lt b
  unfold prN
  clear h2
  generalize prL b = P at *
  obtain ⟨p,q⟩ := P
  simp only at hlt g2 ⊢
  have s1 : dBin .shl (.int .u32 (q : Int)) (.int .u64 16) = some (.int .u32 ((q * 65536 : Nat) : Int)) := by
    have := w32 (z := q * 65536) (by omega)
    simp [dBin,IntKind.bits]
    simpa using this
  have s2 : dBin .or (.int .u32 ((q * 65536 : Nat) : Int)) (.int .u32 (p : Int)) = some (.int .u32 ((Nat.lor (q * 65536) p : Nat) : Int)) := by
    have h := binI_eq (op := .or) (k := .u32) (a := Int.ofNat (q * 65536)) (b := Int.ofNat p) (v := .int .u32 (IntKind.u32.wrap (Int.ofNat (Nat.lor (q * 65536) p)))) (by
      simp only [binI,bitI]
      rw [blt_true.2 (show q * 65536 < kTop .u32 by simp [kTop]; omega),blt_true.2 (show p < kTop .u32 by simp [kTop]; omega)]
      simp only [wrapF_eq])
    have w : IntKind.u32.wrap (Int.ofNat (Nat.lor (q * 65536) p)) = ((Nat.lor (q * 65536) p : Nat) : Int) := w32 (Nat.or_lt_two_pow (n := 32) (by omega) (by omega))
    rw [w] at h
    exact h
  generalize Nat.lor (q * 65536) p = r at *
  generalize q * 65536 = q1 at *
  simp -implicitDefEqProofs (disch := first | assumption | omega) [rc43,ro43,wkB,rtZ,sbZ,dC,ev,fiZ,pkZ,putAt,bnd,slD,gZ0,gZ1,Mem.cell,Mem.row,coZ,crZ,g2,s1,s2]
abbrev Bk := UInt8 × List UInt8
structure Sn where
  tries : Int
  wait : Int
  blocks : List Bk
  close : Bool
  crc : Bool
  phase : Nat
  at_ : Nat
  tr : Int
  left : Int
  can : Bool
  err : Nat
def snOf (tr wt : Int) (bs : List Bk) (crc close : Bool) : Sn := ⟨clampI 1 9 tr,clampI 1 99 wt,bs,close,crc,0,0,1,clampI 1 99 wt,false,0⟩
def sEndF (s : Sn) (e : Nat) : Sn × List UInt8 := ({ s with phase := 3,err := e },if e = 10 then [24,24] else [])
def fitB (d : List UInt8) : Bool := d.length = 128 ∨ d.length = 1024
noncomputable def sNowF (s : Sn) : Sn × List UInt8 :=
  if s.phase = 1 then (if fitB (s.blocks.getD s.at_ (0,[])).2 = true then (s,blkL (s.blocks.getD s.at_ (0,[])).1 (s.blocks.getD s.at_ (0,[])).2 s.crc) else sEndF s 14)
  else if s.phase = 2 then (s,[4]) else (s,[])
noncomputable def sAgainF (s : Sn) : Sn × List UInt8 :=
  if s.tries ≤ s.tr then sEndF s 10 else sNowF { s with tr := s.tr + 1,left := s.wait }
noncomputable def sTickF (s : Sn) : Sn × List UInt8 :=
  if s.phase = 3 then (s,[])
  else if 0 < s.left - 1 then ({ s with left := s.left - 1 },[])
  else sAgainF { s with left := s.left - 1 }
structure SnV (s : Sn) : Prop where
  t1 : 1 ≤ s.tries
  t2 : s.tries ≤ 9
  w1 : 1 ≤ s.wait
  w2 : s.wait ≤ 99
  r1 : 1 ≤ s.tr
  r2 : s.tr ≤ 9
  l1 : 0 ≤ s.left
  l2 : s.left ≤ 99
  p : s.phase ≤ 3
  a : s.at_ ≤ s.blocks.length
  f : ∀ x ∈ s.blocks,x.2.length = 128 ∨ x.2.length = 1024
structure SnW (s : Sn) : Prop extends SnV s where
  d : s.phase = 1 → s.at_ < s.blocks.length
  l3 : s.phase ≠ 3 → 1 ≤ s.left
theorem clamp_le (lo hi x : Int) (h : lo ≤ hi) : lo ≤ clampI lo hi x ∧ clampI lo hi x ≤ hi := by
  unfold clampI
  split <;> split at * <;> omega
theorem snOf_w {tr wt : Int} {bs : List Bk} {crc close : Bool} (h : ∀ x ∈ bs,x.2.length = 128 ∨ x.2.length = 1024) : SnW (snOf tr wt bs crc close) := by
  have h1 := clamp_le 1 9 tr (by omega)
  have h2 := clamp_le 1 99 wt (by omega)
  exact ⟨⟨h1.1,h1.2,h2.1,h2.2,by simp [snOf],by simp [snOf],by simp only [snOf]; omega,by simp only [snOf]; omega,by simp [snOf],by simp [snOf],h⟩,by simp [snOf],fun _ => by simp only [snOf]; omega⟩
theorem sEnd_w {s : Sn} {e : Nat} (h : SnV s) : SnW (sEndF s e).1 := ⟨⟨h.1,h.2,h.3,h.4,h.5,h.6,h.7,h.8,by simp [sEndF],h.10,h.11⟩,by simp [sEndF],by simp [sEndF]⟩
theorem sNow_w {s : Sn} (h : SnW s) : SnW (sNowF s).1 := by
  unfold sNowF
  split
  · split
    · exact h
    · exact sEnd_w h.1
  · split
    · exact h
    · exact h
theorem sAgain_w {s : Sn} (h : SnV s) (hd : s.phase = 1 → s.at_ < s.blocks.length) : SnW (sAgainF s).1 := by
  unfold sAgainF
  split
  · exact sEnd_w h
  · have h1 := h.1
    have h2 := h.2
    have h3 := h.3
    have h4 := h.4
    have h5 := h.5
    exact sNow_w ⟨⟨h.1,h.2,h.3,h.4,by simp only; omega,by simp only; omega,by simp only; omega,by simp only; omega,h.9,h.10,h.11⟩,hd,fun _ => h3⟩
theorem sTick_w {s : Sn} (h : SnW s) : SnW (sTickF s).1 := by
  have h8 := h.1.8
  unfold sTickF
  split
  · exact h
  · rename_i hp
    have h7 := h.3 hp
    split
    · exact ⟨⟨h.1.1,h.1.2,h.1.3,h.1.4,h.1.5,h.1.6,by simp only; omega,by simp only; omega,h.1.9,h.1.10,h.1.11⟩,h.2,fun _ => by simp only; omega⟩
    · exact sAgain_w ⟨h.1.1,h.1.2,h.1.3,h.1.4,h.1.5,h.1.6,by simp only; omega,by simp only; omega,h.1.9,h.1.10,h.1.11⟩ h.2
theorem sNow_data {s : Sn} {n : UInt8} {d : List UInt8} (hp : s.phase = 1) (hb : s.blocks[s.at_]? = some (n,d)) (hd : d.length = 128 ∨ d.length = 1024) : sNowF s = (s,blkL n d s.crc) := by
  unfold sNowF
  rw [if_pos hp,List.getD_eq_getElem?_getD,hb]
  simp only [Option.getD_some]
  rw [if_pos (by simp [fitB,hd])]
theorem Sep.addO {m0 m M : Mem} {V : Nat → Prop} {l H : HL} (h : Sep m0 V m l) (h2 : Sep m (fun i => i < m.next) M H) : Sep m0 V M (H ++ l) := by
  refine (show Sep m0 V m ([] ++ l) from h).un (A := []) ?_
  refine ⟨h2.k.mono fun i hi hv => hi,fun i hv => ?_,fun i hi => .inl (h.gl i hi),h2.pt,fun p hp i hi => ?_,h2.ap⟩
  · rcases hv with hv | hv
    · exact Nat.lt_of_lt_of_le (h.vl i hv) h.n
    · exact (h.il hv).1
  · have a := h2.ok p hp i hi
    refine ⟨a.1,a.2.1,fun hv => a.2.2 ?_⟩
    rcases hv with hv | hv
    · exact Nat.lt_of_lt_of_le (h.vl i hv) h.n
    · exact (h.il hv).1
def bkC : List Nat → List Bk → List Value
  | v :: vs,b :: bs => .int .u8 (b.1.toNat : Int) :: .slice (some ⟨v,0,none⟩) b.2.length 1 :: bkC vs bs
  | _,_ => []
def bkD : List Nat → List Bk → HL
  | v :: vs,b :: bs => byH (some v) b.2 :: bkD vs bs
  | _,_ => []
theorem bkC_len : ∀ {vs : List Nat} {bs : List Bk},vs.length = bs.length → (bkC vs bs).length = bs.length * 2
  | [],[],_ => rfl
  | v :: vs,b :: bs,h => by
    have := bkC_len (vs := vs) (bs := bs) (by simpa using h)
    simp only [bkC,List.length_cons,this]
    omega
theorem bkC_app : ∀ {vs : List Nat} {bs : List Bk} (v : Nat) (b : Bk),vs.length = bs.length → bkC (vs ++ [v]) (bs ++ [b]) = bkC vs bs ++ [.int .u8 (b.1.toNat : Int),.slice (some ⟨v,0,none⟩) b.2.length 1]
  | [],[],v,b,_ => rfl
  | v0 :: vs,b0 :: bs,v,b,h => by
    simp only [List.cons_append,bkC]
    rw [bkC_app v b (by simpa using h)]
theorem bkD_app : ∀ {vs : List Nat} {bs : List Bk} (v : Nat) (b : Bk),vs.length = bs.length → bkD (vs ++ [v]) (bs ++ [b]) = bkD vs bs ++ [byH (some v) b.2]
  | [],[],v,b,_ => rfl
  | v0 :: vs,b0 :: bs,v,b,h => by
    simp only [List.cons_append,bkD]
    rw [bkD_app v b (by simpa using h)]
theorem bk_at : ∀ {vs : List Nat} {bs : List Bk} {k : Nat} {b : Bk},vs.length = bs.length → bs[k]? = some b → ∃ v,vs[k]? = some v ∧ ((bkC vs bs).drop (k * 2)).take 2 = [.int .u8 (b.1.toNat : Int),.slice (some ⟨v,0,none⟩) b.2.length 1] ∧ byH (some v) b.2 ∈ bkD vs bs
  | [],[],k,b,_,hk => by simp at hk
  | v0 :: vs,b0 :: bs,0,b,h,hk => by
    simp at hk
    subst hk
    exact ⟨v0,rfl,rfl,by simp [bkD]⟩
  | v0 :: vs,b0 :: bs,k + 1,b,h,hk => by
    obtain ⟨v,h1,h2,h3⟩ := bk_at (vs := vs) (bs := bs) (k := k) (b := b) (by simpa using h) (by simpa using hk)
    refine ⟨v,by simpa using h1,?_,by simp [bkD,h3]⟩
    rw [show (k + 1) * 2 = k * 2 + 1 + 1 by omega]
    simp only [bkC,List.drop_succ_cons]
    exact h2
def snC (s : Sn) (vb : Value) : List Value := [.int .i64 s.tries,.int .i64 s.wait,vb,.bool s.close,.bool s.crc,.int .i64 (s.phase : Int),.int .i64 (s.at_ : Int),.int .i64 s.tr,.int .i64 s.left,.bool s.can,errV s.err]
def snH (is : Nat) (ob : Option Nat) (vs : List Nat) (s : Sn) : HL := (some is,.own (snC s (slV ob s.blocks.length 2)) 228) :: (ob,.own (bkC vs s.blocks) 221) :: bkD vs s.blocks
structure SnR (H : HL) (is : Nat) (s : Sn) : Prop where
  ex : ∃ ob vs,H = snH is ob vs s ∧ vs.length = s.blocks.length ∧ (ob = none → s.blocks.length = 0)
  w : SnW s
def SnQ (V : Nat → Prop) (m : Mem) (is : Nat) (ob : Option Nat) (vs : List Nat) (r : Sn × List UInt8) (Q : Value → Mem → Prop) : Prop :=
  ∀ oo M,Sep m V M (byH oo r.2 :: snH is ob vs r.1) → (oo = none → r.2.length = 0) → Q (slV oo r.2.length 1) M
theorem c_sEnd {w0 : World} {V : Nat → Prop} {m0 m : Mem} {is : Nat} {ob : Option Nat} {vs : List Nat} {s : Sn} {e : Nat} {Q : Value → Mem → Prop} (h : Sep m0 V m (snH is ob vs s))
    (hq : SnQ V m0 is ob vs (sEndF s e) Q) : AbC Tryz.prog w0 168 [.pointer (some ⟨is,0,none⟩),errV e] m Q := by
  refine AbC_fn ok168 (by simp) ?_
  simp -implicitDefEqProofs (disch := first | assumption | omega) [rc168,ro168,wkB,rtZ,sbZ,dC,ev,fiZ,pkZ,putAt,bnd,slD,gZ0,gZ1,Mem.cell,Mem.row,coZ,crZ]
  refine SK_stS h 0 rfl (o := 5) (vs := [.int .i64 3]) (cs' := snC { s with phase := 3 } (slV ob s.blocks.length 2)) (by simp [wkB,rtZ,sbZ,dC,ev,fiZ,pkZ,putAt,bnd,slD,gZ0,gZ1,Mem.cell,Mem.row,coZ,crZ]) (by simp [wkB,rtZ,sbZ,dC,ev,fiZ,pkZ,putAt,bnd,slD,gZ0,gZ1,Mem.cell,Mem.row,coZ,crZ]) (by simp [snC]) rfl rfl (by simp [snC,putAt]) fun m1 h1 _ => ?_
  simp -implicitDefEqProofs (disch := first | assumption | omega) [wkB,rtZ,sbZ,dC,ev,fiZ,pkZ,putAt,bnd,slD,gZ0,gZ1,Mem.cell,Mem.row,coZ,crZ]
  refine SK_stS h1 0 rfl (o := 10) (vs := [errV e]) (cs' := snC { s with phase := 3,err := e } (slV ob s.blocks.length 2)) (by simp [wkB,rtZ,sbZ,dC,ev,fiZ,pkZ,putAt,bnd,slD,gZ0,gZ1,Mem.cell,Mem.row,coZ,crZ]) (by simp [wkB,rtZ,sbZ,dC,ev,fiZ,pkZ,putAt,bnd,slD,gZ0,gZ1,Mem.cell,Mem.row,coZ,crZ,cellsV_errV]) (by simp [snC]) rfl (by simp [oneC_errV]) (by simp [snC,putAt]) fun m2 h2 _ => ?_
  have h2 : Sep m0 V m2 (snH is ob vs { s with phase := 3,err := e }) := h2
  unfold SnQ sEndF at hq
  by_cases he : e = 10
  · subst he
    rw [if_pos rfl] at hq
    simp -implicitDefEqProofs (disch := first | assumption | omega) [wkB,rtZ,sbZ,dC,ev,fiZ,pkZ,putAt,bnd,slD,gZ0,gZ1,Mem.cell,Mem.row,coZ,crZ,errV,dR_ieq,ieqW_ii,ieqW_nl]
    refine SK_bslS h2 (cs := ([24,24] : List UInt8).map byteV) (by simp [fiZ,pkZ,wkB,rtZ,sbZ,dC,ev,fiZ,pkZ,putAt,bnd,slD,gZ0,gZ1,Mem.cell,Mem.row,coZ,crZ,byteV]) rfl fun b m3 h3 _ _ => ?_
    simp -implicitDefEqProofs (disch := first | assumption | omega) [wkB,rtZ,sbZ,dC,ev,fiZ,pkZ,putAt,bnd,slD,gZ0,gZ1,Mem.cell,Mem.row,coZ,crZ]
    exact hq (some b) m3 h3 (fun e => by cases e)
  · rw [if_neg he] at hq
    cases e with
    | zero =>
      simp -implicitDefEqProofs (disch := first | assumption | omega) [wkB,rtZ,sbZ,dC,ev,fiZ,pkZ,putAt,bnd,slD,gZ0,gZ1,Mem.cell,Mem.row,coZ,crZ,errV,dR_ieq,ieqW_ii,ieqW_nl,rc168_0]
      exact hq none m2 (h2.non _) (fun _ => rfl)
    | succ k =>
      have hk : (((k + 1 : Nat) : Int) == 10) = false := beq_eq_false_iff_ne.2 (by omega)
      have hk2 : ((k : Int) + 1 == 10) = false := beq_eq_false_iff_ne.2 (by omega)
      simp -implicitDefEqProofs (disch := first | assumption | omega) [wkB,rtZ,sbZ,dC,ev,fiZ,pkZ,putAt,bnd,slD,gZ0,gZ1,Mem.cell,Mem.row,coZ,crZ,errV,dR_ieq,ieqW_ii,ieqW_nl,hk,hk2,rc168_0]
      exact hq none m2 (h2.non _) (fun _ => rfl)
theorem SlR.cells_at {m : Mem} {sz n j : Nat} {v : Value} {cs C : List Value} (h : SlR m sz v cs n) (hj : j < n) (hC : (cs.drop (j * sz)).take sz = C) :
    ∃ i o L,v = .slice (some ⟨i,o,none⟩) n sz ∧ sidx sz v (.int .i64 (j : Int)) = some (.pointer (some ⟨i,o + j * sz,none⟩)) ∧ (m.get i).cells? = some L ∧ o + j * sz + sz ≤ L.length ∧ (L.drop (o + j * sz)).take sz = C := by
  obtain ⟨i,o,L,rfl,h2,h3,h4,-⟩ := h.at hj
  have hle : j * sz + sz ≤ n * sz := by
    have : (j + 1) * sz ≤ n * sz := Nat.mul_le_mul_right _ hj
    rwa [Nat.add_mul,Nat.one_mul] at this
  exact ⟨i,o,L,rfl,sidx_at hj,h2,by omega,by rw [h4,hC]⟩
theorem c_sNow {w0 : World} {V : Nat → Prop} {m0 m : Mem} {is : Nat} {ob : Option Nat} {vs : List Nat} {s : Sn} {Q : Value → Mem → Prop} (h : Sep m0 V m (snH is ob vs s)) (hvs : vs.length = s.blocks.length) (hob : ob = none → s.blocks.length = 0) (hd : s.phase = 1 → s.at_ < s.blocks.length)
    (hf : ∀ x ∈ s.blocks,x.2.length = 128 ∨ x.2.length = 1024) (hq : SnQ V m0 is ob vs (sNowF s) Q) : AbC Tryz.prog w0 171 [.pointer (some ⟨is,0,none⟩)] m Q := by
  refine AbC_fn ok171 (by simp) ?_
  have g0 := h.get 0 rfl
  simp only [snC] at g0
  by_cases h1 : s.phase = 1
  · have hat := hd h1
    obtain ⟨b,hb⟩ : ∃ b,s.blocks[s.at_]? = some b := ⟨_,List.getElem?_eq_getElem hat⟩
    obtain ⟨v,hv1,hv2,hv3⟩ := bk_at hvs hb
    have hfb := hf b (List.mem_of_getElem? hb)
    have hnow := sNow_data h1 (n := b.1) (d := b.2) hb hfb
    rw [hnow] at hq
    have hO : SlR m 2 (slV ob s.blocks.length 2) (bkC vs s.blocks) s.blocks.length := (h.slO 1 (k := s.blocks.length) (sz := 2) rfl (bkC_len hvs) hob).read
    obtain ⟨i,o,L,hi1,hi2,hi3,hi4,hi5⟩ := hO.cells_at hat hv2
    have hmem : byH (some v) b.2 ∈ snH is ob vs s := List.mem_cons_of_mem _ (List.mem_cons_of_mem _ hv3)
    have hrd : RdV (fun i => i < m.next) m 1 (.slice (some ⟨v,0,none⟩) b.2.length 1) (b.2.map byteV) b.2.length := h.rdm (ob := some v) hmem (by simp) (fun e => by cases e) (fun i hi => by cases hi; exact (h.ok _ hmem v rfl).2.1)
    have e1 : ((s.phase : Int) == 1) = true := by rw [h1]; rfl
    simp -implicitDefEqProofs (disch := first | assumption | omega) [rc171,ro171,wkB,rtZ,sbZ,dC,ev,fiZ,pkZ,putAt,bnd,slD,gZ0,gZ1,Mem.cell,Mem.row,coZ,crZ,g0,e1,hi2,hi3,hi4,hi5]
    refine c_bMake h.pt hrd hfb fun m2 y o2 hy1 hy2 hy3 => ?_
    have h2 := h.new (ob := some y) o2 (E := .own ((blkL b.1 b.2 s.crc).map byteV) 5) (fun i hi => by cases hi; exact ⟨hy1,hy2,hy3⟩)
    simp -implicitDefEqProofs (disch := first | assumption | omega) [wkB,rtZ,sbZ,dC,ev,fiZ,pkZ,putAt,bnd,slD,gZ0,gZ1,Mem.cell,Mem.row,coZ,crZ,rc171_0]
    exact hq (some y) m2 h2 (fun e => by cases e)
  · have e1 : ((s.phase : Int) == 1) = false := beq_eq_false_iff_ne.2 (by omega)
    unfold sNowF at hq
    rw [if_neg h1] at hq
    by_cases h2 : s.phase = 2
    · have e2 : ((s.phase : Int) == 2) = true := by rw [h2]; rfl
      rw [if_pos h2] at hq
      simp -implicitDefEqProofs (disch := first | assumption | omega) [rc171,ro171,wkB,rtZ,sbZ,dC,ev,fiZ,pkZ,putAt,bnd,slD,gZ0,gZ1,Mem.cell,Mem.row,coZ,crZ,g0,e1,e2]
      refine SK_bslS h (cs := ([4] : List UInt8).map byteV) (by simp [fiZ,pkZ,wkB,rtZ,sbZ,dC,ev,fiZ,pkZ,putAt,bnd,slD,gZ0,gZ1,Mem.cell,Mem.row,coZ,crZ,byteV]) rfl fun b m3 h3 _ _ => ?_
      simp -implicitDefEqProofs (disch := first | assumption | omega) [wkB,rtZ,sbZ,dC,ev,fiZ,pkZ,putAt,bnd,slD,gZ0,gZ1,Mem.cell,Mem.row,coZ,crZ]
      exact hq (some b) m3 h3 (fun e => by cases e)
    · have e2 : ((s.phase : Int) == 2) = false := beq_eq_false_iff_ne.2 (by omega)
      rw [if_neg h2] at hq
      simp -implicitDefEqProofs (disch := first | assumption | omega) [rc171,ro171,wkB,rtZ,sbZ,dC,ev,fiZ,pkZ,putAt,bnd,slD,gZ0,gZ1,Mem.cell,Mem.row,coZ,crZ,g0,e1,e2,rc171_1]
      exact hq none m (h.non _) (fun _ => rfl)
theorem c_sAgain {w0 : World} {V : Nat → Prop} {m0 m : Mem} {is : Nat} {ob : Option Nat} {vs : List Nat} {s : Sn} {Q : Value → Mem → Prop} (h : Sep m0 V m (snH is ob vs s)) (hvs : vs.length = s.blocks.length) (hob : ob = none → s.blocks.length = 0) (hd : s.phase = 1 → s.at_ < s.blocks.length)
    (hf : ∀ x ∈ s.blocks,x.2.length = 128 ∨ x.2.length = 1024) (hr : 1 ≤ s.tr ∧ s.tr ≤ 9) (hq : SnQ V m0 is ob vs (sAgainF s) Q) : AbC Tryz.prog w0 170 [.pointer (some ⟨is,0,none⟩)] m Q := by
  refine AbC_fn ok170 (by simp) ?_
  have g0 := h.get 0 rfl
  simp only [snC] at g0
  unfold sAgainF at hq
  by_cases ht : s.tries ≤ s.tr
  · rw [if_pos ht] at hq
    simp -implicitDefEqProofs (disch := first | assumption | omega) [rc170,ro170,wkB,rtZ,sbZ,dC,ev,fiZ,pkZ,putAt,bnd,slD,gZ0,gZ1,Mem.cell,Mem.row,coZ,crZ,g0,ht]
    refine c_sEnd (e := 10) h fun oo M hM hoo => ?_
    simp -implicitDefEqProofs (disch := first | assumption | omega) [wkB,rtZ,sbZ,dC,ev,fiZ,pkZ,putAt,bnd,slD,gZ0,gZ1,Mem.cell,Mem.row,coZ,crZ]
    exact hq oo M hM hoo
  · rw [if_neg ht] at hq
    have w1 : IntKind.i64.wrap (s.tr + 1) = s.tr + 1 := w64 (by omega)
    simp -implicitDefEqProofs (disch := first | assumption | omega) [rc170,ro170,wkB,rtZ,sbZ,dC,ev,fiZ,pkZ,putAt,bnd,slD,gZ0,gZ1,Mem.cell,Mem.row,coZ,crZ,g0,ht,rc170_0,w1]
    refine SK_stS h 0 rfl (o := 7) (vs := [.int .i64 (s.tr + 1)]) (cs' := snC { s with tr := s.tr + 1 } (slV ob s.blocks.length 2)) (by simp [wkB,rtZ,sbZ,dC,ev,fiZ,pkZ,putAt,bnd,slD,gZ0,gZ1,Mem.cell,Mem.row,coZ,crZ]) (by simp [wkB,rtZ,sbZ,dC,ev,fiZ,pkZ,putAt,bnd,slD,gZ0,gZ1,Mem.cell,Mem.row,coZ,crZ]) (by simp [snC]) rfl rfl (by simp [snC,putAt]) fun m1 h1 _ => ?_
    have g1 := h1.get 0 rfl
    simp only [snC] at g1
    simp -implicitDefEqProofs (disch := first | assumption | omega) [wkB,rtZ,sbZ,dC,ev,fiZ,pkZ,putAt,bnd,slD,gZ0,gZ1,Mem.cell,Mem.row,coZ,crZ,g1]
    refine SK_stS h1 0 rfl (o := 8) (vs := [.int .i64 s.wait]) (cs' := snC { s with tr := s.tr + 1,left := s.wait } (slV ob s.blocks.length 2)) (by simp [wkB,rtZ,sbZ,dC,ev,fiZ,pkZ,putAt,bnd,slD,gZ0,gZ1,Mem.cell,Mem.row,coZ,crZ]) (by simp [wkB,rtZ,sbZ,dC,ev,fiZ,pkZ,putAt,bnd,slD,gZ0,gZ1,Mem.cell,Mem.row,coZ,crZ]) (by simp [snC]) rfl rfl (by simp [snC,putAt]) fun m2 h2 _ => ?_
    simp -implicitDefEqProofs (disch := first | assumption | omega) [wkB,rtZ,sbZ,dC,ev,fiZ,pkZ,putAt,bnd,slD,gZ0,gZ1,Mem.cell,Mem.row,coZ,crZ]
    refine c_sNow (s := { s with tr := s.tr + 1,left := s.wait }) h2 hvs hob hd hf fun oo M hM hoo => ?_
    simp -implicitDefEqProofs (disch := first | assumption | omega) [wkB,rtZ,sbZ,dC,ev,fiZ,pkZ,putAt,bnd,slD,gZ0,gZ1,Mem.cell,Mem.row,coZ,crZ]
    exact hq oo M hM hoo
theorem sNow_bl (s : Sn) : (sNowF s).1.blocks = s.blocks := by
  unfold sNowF
  split
  · split <;> rfl
  · split <;> rfl
theorem sAgain_bl (s : Sn) : (sAgainF s).1.blocks = s.blocks := by
  unfold sAgainF
  split
  · rfl
  · exact sNow_bl _
theorem sTick_bl (s : Sn) : (sTickF s).1.blocks = s.blocks := by
  unfold sTickF
  split
  · rfl
  · split
    · rfl
    · exact sAgain_bl _
def SnT (V : Nat → Prop) (m : Mem) (is : Nat) (r : Sn × List UInt8) (Q : Value → Mem → Prop) : Prop :=
  ∀ oo H' M,Sep m V M (byH oo r.2 :: H') → SnR H' is r.1 → (oo = none → r.2.length = 0) → Q (slV oo r.2.length 1) M
theorem c_sTick {w0 : World} {V : Nat → Prop} {m : Mem} {H : HL} {is : Nat} {s : Sn} {Q : Value → Mem → Prop} (h : Sep m V m H) (hR : SnR H is s) (hq : SnT V m is (sTickF s) Q) :
    AbC Tryz.prog w0 166 [.pointer (some ⟨is,0,none⟩)] m Q := by
  refine AbC_fn ok166 (by simp) ?_
  obtain ⟨⟨ob,vs,rfl,hvs,hob⟩,hw⟩ := hR
  have hw2 := sTick_w hw
  have hq2 : SnQ V m is ob vs (sTickF s) Q := fun oo M hM hoo => hq oo _ M hM ⟨⟨ob,vs,rfl,by rw [sTick_bl]; exact hvs,fun e => by rw [sTick_bl]; exact hob e⟩,hw2⟩ hoo
  clear hq hw2
  have g0 := h.get 0 rfl
  simp only [snC] at g0
  have hl2 := hw.l2
  have hl1 := hw.l1
  unfold sTickF at hq2
  by_cases h3 : s.phase = 3
  · rw [if_pos h3] at hq2
    rw [h3] at g0
    simp -implicitDefEqProofs (disch := first | assumption | omega) [rc166,ro166,wkB,rtZ,sbZ,dC,ev,fiZ,pkZ,putAt,bnd,slD,gZ0,gZ1,Mem.cell,Mem.row,coZ,crZ,g0]
    exact hq2 none m (h.non _) (fun _ => rfl)
  · rw [if_neg h3] at hq2
    have e3 : ((s.phase : Int) == 3) = false := beq_eq_false_iff_ne.2 (by omega)
    have w1 : IntKind.i64.wrap (s.left - 1) = s.left - 1 := w64 (by omega)
    simp -implicitDefEqProofs (disch := first | assumption | omega) [rc166,ro166,wkB,rtZ,sbZ,dC,ev,fiZ,pkZ,putAt,bnd,slD,gZ0,gZ1,Mem.cell,Mem.row,coZ,crZ,g0,e3,rc166_1,w1]
    refine SK_stS h 0 rfl (o := 8) (vs := [.int .i64 (s.left - 1)]) (cs' := snC { s with left := s.left - 1 } (slV ob s.blocks.length 2)) (by simp [wkB,rtZ,sbZ,dC,ev,fiZ,pkZ,putAt,bnd,slD,gZ0,gZ1,Mem.cell,Mem.row,coZ,crZ]) (by simp [wkB,rtZ,sbZ,dC,ev,fiZ,pkZ,putAt,bnd,slD,gZ0,gZ1,Mem.cell,Mem.row,coZ,crZ]) (by simp [snC]) rfl rfl (by simp [snC,putAt]) fun m1 h1 _ => ?_
    have g1 := h1.get 0 rfl
    simp only [snC] at g1
    by_cases hl : 0 < s.left - 1
    · rw [if_pos hl] at hq2
      have hl' : 1 < s.left := by omega
      simp -implicitDefEqProofs (disch := first | assumption | omega) [wkB,rtZ,sbZ,dC,ev,fiZ,pkZ,putAt,bnd,slD,gZ0,gZ1,Mem.cell,Mem.row,coZ,crZ,g1,hl,hl']
      exact hq2 none m1 (h1.non _) (fun _ => rfl)
    · rw [if_neg hl] at hq2
      have hl' : ¬ 1 < s.left := by omega
      simp -implicitDefEqProofs (disch := first | assumption | omega) [wkB,rtZ,sbZ,dC,ev,fiZ,pkZ,putAt,bnd,slD,gZ0,gZ1,Mem.cell,Mem.row,coZ,crZ,g1,hl,hl',rc166_0]
      refine c_sAgain (s := { s with left := s.left - 1 }) h1 hvs hob hw.d hw.f ⟨hw.r1,hw.r2⟩ fun oo M hM hoo => ?_
      simp -implicitDefEqProofs (disch := first | assumption | omega) [wkB,rtZ,sbZ,dC,ev,fiZ,pkZ,putAt,bnd,slD,gZ0,gZ1,Mem.cell,Mem.row,coZ,crZ]
      exact hq2 oo M hM hoo
theorem kb (c : UInt8) (k : Nat) (z : Int) (hz : z = (k : Int)) (hk : k < 256) : (c = UInt8.ofNat k → ((c.toNat : Int) == z) = true) ∧ (c ≠ UInt8.ofNat k → ((c.toNat : Int) == z) = false) := by
  subst hz
  exact ⟨fun h => by rw [b8 c k hk]; simp [h],fun h => by rw [b8 c k hk]; simp [h]⟩
theorem RdV.oneC' {X : Nat → Prop} {m : Mem} {v : Value} {l : List UInt8} (h : RdV X m 1 v (l.map byteV) l.length) : cellsV v = [v] ∧ oneC v = true := by
  rcases h.sl.2 with ⟨_,rfl | rfl⟩ | ⟨i,o,L,rfl,_⟩ <;> exact ⟨rfl,rfl⟩
theorem c_sDone {w0 : World} {V : Nat → Prop} {m0 m : Mem} {l H : HL} {is : Nat} {s : Sn} {Q : Value → Mem → Prop} (h : Sep m0 V m l) (hR : SnR H is s) (hs : ∀ p ∈ H,p ∈ l)
    (hq : Q (.tuple ⟨[.bool (decide (s.phase = 3)),errV s.err]⟩) m) : AbC Tryz.prog w0 167 [.pointer (some ⟨is,0,none⟩)] m Q := by
  refine AbC_fn ok167 (by simp) ?_
  obtain ⟨⟨ob,vs,rfl,hvs,hob⟩,hw⟩ := hR
  have g0 := h.mem (hs _ (List.mem_cons_self ..))
  simp only [snC] at g0
  have e3 : ((s.phase : Int) == 3) = decide (s.phase = 3) := by
    by_cases h : s.phase = 3
    · simp [h]
    · rw [beq_eq_false_iff_ne.2 (by omega)]; simp [h]
  obtain ⟨d,hd⟩ : ∃ d,decide (s.phase = 3) = d := ⟨_,rfl⟩
  rw [hd] at e3 hq
  simp -implicitDefEqProofs (disch := first | assumption | omega) [rc167,ro167,wkB,rtZ,sbZ,dC,ev,fiZ,pkZ,putAt,bnd,slD,gZ0,gZ1,Mem.cell,Mem.row,coZ,crZ,g0,e3]
  exact hq
theorem c_fit {w0 : World} {V : Nat → Prop} {m0 m : Mem} {l : HL} {tr wt : Int} {Q : Value → Mem → Prop} (h : Sep m0 V m l)
    (hq : ∀ M,Sep m0 V M l → Q (.agg ⟨[.int .i64 (clampI 1 9 tr),.int .i64 (clampI 1 99 wt)]⟩) M) : AbC Tryz.prog w0 95 [.agg ⟨[.int .i64 tr,.int .i64 wt]⟩] m Q := by
  refine AbC_fn ok95 (by simp) ?_
  simp -implicitDefEqProofs (disch := first | assumption | omega) [rc95,ro95,wkB,rtZ,sbZ,dC,ev,fiZ,pkZ,putAt,bnd,slD,gZ0,gZ1,Mem.cell,Mem.row,coZ,crZ]
  refine SK_bxS h (cs := [.int .i64 tr,.int .i64 wt]) (by simp [wkB,rtZ,sbZ,dC,ev,fiZ,pkZ,putAt,bnd,slD,gZ0,gZ1,Mem.cell,Mem.row,coZ,crZ]) fun B m1 h1 _ _ => ?_
  simp -implicitDefEqProofs (disch := first | assumption | omega) [wkB,rtZ,sbZ,dC,ev,fiZ,pkZ,putAt,bnd,slD,gZ0,gZ1,Mem.cell,Mem.row,coZ,crZ]
  refine SK_alS h1 fun C m2 h2 _ _ => ?_
  have g2 := h2.get 1 rfl
  simp -implicitDefEqProofs (disch := first | assumption | omega) [wkB,rtZ,sbZ,dC,ev,fiZ,pkZ,putAt,bnd,slD,gZ0,gZ1,Mem.cell,Mem.row,coZ,crZ,g2]
  refine SK_stS h2 0 rfl (o := 0) (vs := [.int .i64 (clampI 1 9 tr),.int .i64 (clampI 1 99 wt)]) (cs' := [.int .i64 (clampI 1 9 tr),.int .i64 (clampI 1 99 wt)]) (by simp [wkB,rtZ,sbZ,dC,ev,fiZ,pkZ,putAt,bnd,slD,gZ0,gZ1,Mem.cell,Mem.row,coZ,crZ]) (by simp [wkB,rtZ,sbZ,dC,ev,fiZ,pkZ,putAt,bnd,slD,gZ0,gZ1,Mem.cell,Mem.row,coZ,crZ,clampI]) (by simp) rfl rfl rfl fun m3 h3 _ => ?_
  have g3 := h3.get 0 rfl
  simp -implicitDefEqProofs (disch := first | assumption | omega) [wkB,rtZ,sbZ,dC,ev,fiZ,pkZ,putAt,bnd,slD,gZ0,gZ1,Mem.cell,Mem.row,coZ,crZ,g3]
  exact hq m3 h3.tl.tl
abbrev Bi := UInt8 × Value × List UInt8
def biC (x : Bi) : List Value := [.int .u8 (x.1.toNat : Int),x.2.1]
theorem biC_len (x : Bi) : (biC x).length = 2 := rfl
def biB (x : Bi) : Bk := (x.1,x.2.2)
structure BiOk (m : Mem) (xs : List Bi) : Prop where
  r : ∀ x ∈ xs,RdV (fun i => i < m.next) m 1 x.2.1 (x.2.2.map byteV) x.2.2.length ∧ (x.2.2.length = 128 ∨ x.2.2.length = 1024)
theorem c_sOf {w0 : World} {V : Nat → Prop} {m0 m : Mem} {l : HL} {tr wt : Int} {v : Value} {xs : List Bi} {crc close : Bool} {Q : Value → Mem → Prop} (h : Sep m0 V m l) (hv : RdV (fun i => i < m.next) m 2 v (xs.flatMap biC) xs.length) (hx : BiOk m xs) (hn : xs.length ≤ 1000000000000)
    (hq : ∀ is H M,Sep m0 V M (H ++ l) → Old m M → SnR H is (snOf tr wt (xs.map biB) crc close) → Q (.pointer (some ⟨is,0,none⟩)) M) :
    AbC Tryz.prog w0 72 [.agg ⟨[.int .i64 tr,.int .i64 wt]⟩,v,.bool crc,.bool close] m Q := by
  refine AbC_fn ok72 (by simp) ?_
  simp -implicitDefEqProofs (disch := first | assumption | omega) [rc72,ro72,wkB,rtZ,sbZ,dC,ev,fiZ,pkZ,putAt,bnd,slD,gZ0,gZ1,Mem.cell,Mem.row,coZ,crZ]
  refine SK_bxS (Sep.ofOld h.pt) (cs := [.int .i64 tr,.int .i64 wt]) (by simp [wkB,rtZ,sbZ,dC,ev,fiZ,pkZ,putAt,bnd,slD,gZ0,gZ1,Mem.cell,Mem.row,coZ,crZ]) fun B m1 h1 _ _ => ?_
  have g1 := h1.get 0 rfl
  simp -implicitDefEqProofs (disch := first | assumption | omega) [wkB,rtZ,sbZ,dC,ev,fiZ,pkZ,putAt,bnd,slD,gZ0,gZ1,Mem.cell,Mem.row,coZ,crZ,g1]
  refine c_fit h1.tl fun m2 h2 => ?_
  obtain ⟨T,hT⟩ : ∃ T,clampI 1 9 tr = T := ⟨_,rfl⟩
  obtain ⟨W,hW⟩ : ∃ W,clampI 1 99 wt = W := ⟨_,rfl⟩
  obtain ⟨s0,hs0⟩ : ∃ s0 : Nat → Sn,s0 = fun j => ⟨T,W,(xs.take j).map biB,close,crc,0,0,0,0,false,0⟩ := ⟨_,rfl⟩
  rw [hT,hW]
  simp -implicitDefEqProofs (disch := first | assumption | omega) [wkB,rtZ,sbZ,dC,ev,fiZ,pkZ,putAt,bnd,slD,gZ0,gZ1,Mem.cell,Mem.row,coZ,crZ]
  refine SK_bxS h2 (cs := snC (s0 0) (.slice none 0 0)) (by simp [wkB,rtZ,sbZ,dC,ev,fiZ,pkZ,putAt,bnd,slD,gZ0,gZ1,Mem.cell,Mem.row,coZ,crZ,snC,hs0,errV]) fun is m3 h3 _ _ => ?_
  simp -implicitDefEqProofs (disch := first | assumption | omega) [wkB,rtZ,sbZ,dC,ev,fiZ,pkZ,putAt,bnd,slD,gZ0,gZ1,Mem.cell,Mem.row,coZ,crZ,hv.sl.slen]
  have hbl : ∀ j,j ≤ xs.length → (s0 j).blocks.length = j := fun j hj => by rw [hs0]; simp; omega
  refine LoopW_of (fun k ts m' => ∃ (j : Nat) (ob : Option Nat) (vs : List Nat),j + k = xs.length ∧ Sep m (fun i => i < m.next) m' (snH is ob vs (s0 j)) ∧ vs.length = j ∧ (ob = none → j = 0) ∧
    ts 9 = .pointer (some ⟨is,0,none⟩) ∧ ts 18 = v ∧ ts 19 = .int .i64 (xs.length : Nat) ∧ ts 20 = .int .i64 (j : Nat)) xs.length ?_ ?_
  · refine ⟨0,none,[],by omega,?_,rfl,fun _ => rfl,by simp,by simp [frA_at],by simp,by simp⟩
    have e0 : (s0 0).blocks = [] := by rw [hs0]; rfl
    have := (h3.non (.own [] 221)).perm (List.Perm.swap _ _ _)
    unfold snH
    rw [e0]
    simpa [slV,bkC,bkD] using this
  rintro k ts m4 K ⟨j,ob,vs,hj,h4,hvs,hob,t9,t18,t19,t20⟩ hK
  have g4 := h4.get 0 rfl
  rw [hbl j (by omega)] at g4
  simp only [snC] at g4
  by_cases hjl : j < xs.length
  · have hjl' : (j : Int) < (xs.length : Nat) := by omega
    have wj : IntKind.i64.wrap ((j : Int) + 1) = ((j + 1 : Nat) : Int) := by rw [w64 (by omega)]; omega
    have hrow := flat_at biC_len xs (List.getElem?_eq_getElem hjl)
    obtain ⟨i,o,L,hi1,hi2,hi3,hi4,hi5⟩ := (hv.sep h4).sl.cells_at hjl hrow
    obtain ⟨x,hxj⟩ : ∃ x,xs[j] = x := ⟨_,rfl⟩
    obtain ⟨hxr,hxl⟩ := hx.r x (by rw [← hxj]; exact List.getElem_mem hjl)
    have hxg : xs[j]? = some x := by rw [List.getElem?_eq_getElem hjl,hxj]
    rw [hxj] at hi5
    obtain ⟨no,dv,d⟩ := x
    simp only at hxr hxl
    have hov := hxr.oneC'
    have hi5 : (L.drop (o + j * 2)).take 2 = [.int .u8 (no.toNat : Int),dv] := hi5
    simp -implicitDefEqProofs (disch := first | assumption | omega) [rc72_1,rc72_0,wkB,rtZ,sbZ,dC,ev,fiZ,pkZ,putAt,bnd,slD,gZ0,gZ1,Mem.cell,Mem.row,coZ,crZ,t9,t18,t19,t20,hjl,hjl',hi2,hi3,hi4,hi5]
    refine SK_alS h4 fun xr m5 h5 _ _ => ?_
    simp -implicitDefEqProofs (disch := first | assumption | omega) [wkB,rtZ,sbZ,dC,ev,fiZ,pkZ,putAt,bnd,slD,gZ0,gZ1,Mem.cell,Mem.row,coZ,crZ]
    refine SK_stS h5 0 rfl (o := 0) (vs := [.int .u8 (no.toNat : Int),dv]) (cs' := [.int .u8 (no.toNat : Int),dv]) (by simp [wkB,rtZ,sbZ,dC,ev,fiZ,pkZ,putAt,bnd,slD,gZ0,gZ1,Mem.cell,Mem.row,coZ,crZ]) (by simp [wkB,rtZ,sbZ,dC,ev,fiZ,pkZ,putAt,bnd,slD,gZ0,gZ1,Mem.cell,Mem.row,coZ,crZ]) (by simp) rfl (by simp only [List.all_cons,List.all_nil,hov.2,Bool.and_true]; rfl) rfl fun m6 h6 _ => ?_
    have g60 := h6.get 0 rfl
    have g61 := h6.get 1 rfl
    rw [hbl j (by omega)] at g61
    simp only [snC] at g61
    simp -implicitDefEqProofs (disch := first | assumption | omega) [wkB,rtZ,sbZ,dC,ev,fiZ,pkZ,putAt,bnd,slD,gZ0,gZ1,Mem.cell,Mem.row,coZ,crZ,t9,g60,g61]
    have hx6 := (hxr.sep h6).sl
    refine SK_nwS h6 (k := d.length) (ys := d.map byteV) (by simp [wkB,rtZ,sbZ,dC,ev,fiZ,pkZ,putAt,bnd,slD,gZ0,gZ1,Mem.cell,Mem.row,coZ,crZ]) (by simp [wkB,rtZ,sbZ,dC,ev,fiZ,pkZ,putAt,bnd,slD,gZ0,gZ1,Mem.cell,Mem.row,coZ,crZ]; exact hx6.elems) (by simp [wkB,rtZ,sbZ,dC,ev,fiZ,pkZ,putAt,bnd,slD,gZ0,gZ1,Mem.cell,Mem.row,coZ,crZ]; exact hx6.lenV) (byteV_oneC _) (by omega) (by unfold maxLen; omega) (by simp) fun od m7 h7 hn7 _ => ?_
    obtain ⟨w,rfl⟩ : ∃ w,od = some w := by
      cases od with
      | none => have := hn7 rfl; omega
      | some w => exact ⟨w,rfl⟩
    have g70 := h7.get 1 rfl
    have g71 := h7.get 2 rfl
    rw [hbl j (by omega)] at g71
    simp only [snC] at g71
    simp -implicitDefEqProofs (disch := first | assumption | omega) [wkB,rtZ,sbZ,dC,ev,fiZ,pkZ,putAt,bnd,slD,gZ0,gZ1,Mem.cell,Mem.row,coZ,crZ,t9,g70,g71]
    refine SK_bslS h7 (cs := [.int .u8 (no.toNat : Int),.slice (some ⟨w,0,none⟩) d.length 1]) (by simp [fiZ,pkZ,wkB,rtZ,sbZ,dC,ev,fiZ,pkZ,putAt,bnd,slD,gZ0,gZ1,Mem.cell,Mem.row,coZ,crZ,slV]) rfl fun b8 m8 h8 _ _ => ?_
    have g81 := h8.get 3 rfl
    rw [hbl j (by omega)] at g81
    simp only [snC] at g81
    have hO8 := (h8.slO 0 (k := 1) (sz := 2) rfl rfl (fun e => by cases e)).read
    have hvl : vs.length = (s0 j).blocks.length := by rw [hbl j (by omega)]; exact hvs
    simp -implicitDefEqProofs (disch := first | assumption | omega) [wkB,rtZ,sbZ,dC,ev,fiZ,pkZ,putAt,bnd,slD,gZ0,gZ1,Mem.cell,Mem.row,coZ,crZ,t9,g81]
    refine SK_apS h8 4 (n := j) (k := 1) (ys := [.int .u8 (no.toNat : Int),.slice (some ⟨w,0,none⟩) d.length 1]) rfl (by simp [wkB,rtZ,sbZ,dC,ev,fiZ,pkZ,putAt,bnd,slD,gZ0,gZ1,Mem.cell,Mem.row,coZ,crZ]) (by rw [bkC_len hvl,hbl j (by omega)]) hob (by simp [wkB,rtZ,sbZ,dC,ev,fiZ,pkZ,putAt,bnd,slD,gZ0,gZ1,Mem.cell,Mem.row,coZ,crZ]; exact hO8.elems) (by simp [wkB,rtZ,sbZ,dC,ev,fiZ,pkZ,putAt,bnd,slD,gZ0,gZ1,Mem.cell,Mem.row,coZ,crZ]) rfl (by omega) (by unfold maxLen; omega) rfl fun ob9 m9 h9 hn9 _ => ?_
    simp -implicitDefEqProofs (disch := first | assumption | omega) [wkB,rtZ,sbZ,dC,ev,fiZ,pkZ,putAt,bnd,slD,gZ0,gZ1,Mem.cell,Mem.row,coZ,crZ,t9]
    refine SK_stS h9 3 rfl (o := 2) (vs := [slV ob9 (j + 1) 2]) (cs' := snC (s0 (j + 1)) (slV ob9 (j + 1) 2)) (by simp [wkB,rtZ,sbZ,dC,ev,fiZ,pkZ,putAt,bnd,slD,gZ0,gZ1,Mem.cell,Mem.row,coZ,crZ]) (by simp [wkB,rtZ,sbZ,dC,ev,fiZ,pkZ,putAt,bnd,slD,gZ0,gZ1,Mem.cell,Mem.row,coZ,crZ]) (by simp [snC]) rfl (by simp [oneC_slV]) (by rw [hs0]; simp [snC,putAt]) fun m10 h10 _ => ?_
    simp -implicitDefEqProofs (disch := first | assumption | omega) [wkB,rtZ,sbZ,dC,ev,fiZ,pkZ,putAt,bnd,slD,gZ0,gZ1,Mem.cell,Mem.row,coZ,crZ,t20,wj]
    have hbs : (s0 (j + 1)).blocks = (s0 j).blocks ++ [(no,d)] := by rw [hs0]; simp [List.take_add_one,hxg,biB]
    have h11 := ((h10.tl).del 1).perm (List.perm_append_comm (l₁ := [byH (some w) d]))
    refine hK (k - 1) _ _ (by omega) ⟨j + 1,ob9,vs ++ [w],by omega,?_,by simp [hvs],fun e => by have := hn9 e; omega,by simp [t9],by simp [t18],by simp [t19],by simp⟩
    unfold snH
    rw [hbl (j + 1) (by omega),hbs,bkC_app w (no,d) hvl,bkD_app w (no,d) hvl]
    exact h11
  · have hjj : j = xs.length := by omega
    subst hjj
    simp -implicitDefEqProofs (disch := first | assumption | omega) [rc72_1,rc72_2,wkB,rtZ,sbZ,dC,ev,fiZ,pkZ,putAt,bnd,slD,gZ0,gZ1,Mem.cell,Mem.row,coZ,crZ,t9,t19,t20,g4]
    refine SK_stS h4 0 rfl (o := 8) (vs := [.int .i64 W]) (cs' := snC { s0 xs.length with left := W } (slV ob (s0 xs.length).blocks.length 2)) (by simp [wkB,rtZ,sbZ,dC,ev,fiZ,pkZ,putAt,bnd,slD,gZ0,gZ1,Mem.cell,Mem.row,coZ,crZ]) (by simp [wkB,rtZ,sbZ,dC,ev,fiZ,pkZ,putAt,bnd,slD,gZ0,gZ1,Mem.cell,Mem.row,coZ,crZ,hs0]) (by simp [snC]) rfl rfl (by simp [snC,putAt]) fun m5 h5 _ => ?_
    simp -implicitDefEqProofs (disch := first | assumption | omega) [wkB,rtZ,sbZ,dC,ev,fiZ,pkZ,putAt,bnd,slD,gZ0,gZ1,Mem.cell,Mem.row,coZ,crZ,t9]
    refine SK_stS h5 0 rfl (o := 7) (vs := [.int .i64 1]) (cs' := snC { s0 xs.length with left := W,tr := 1 } (slV ob (s0 xs.length).blocks.length 2)) (by simp [wkB,rtZ,sbZ,dC,ev,fiZ,pkZ,putAt,bnd,slD,gZ0,gZ1,Mem.cell,Mem.row,coZ,crZ]) (by simp [wkB,rtZ,sbZ,dC,ev,fiZ,pkZ,putAt,bnd,slD,gZ0,gZ1,Mem.cell,Mem.row,coZ,crZ]) (by simp [snC]) rfl rfl (by simp [snC,putAt]) fun m6 h6 _ => ?_
    simp -implicitDefEqProofs (disch := first | assumption | omega) [wkB,rtZ,sbZ,dC,ev,fiZ,pkZ,putAt,bnd,slD,gZ0,gZ1,Mem.cell,Mem.row,coZ,crZ,t9]
    have e1 : ({ s0 xs.length with left := W,tr := 1 } : Sn) = snOf tr wt (xs.map biB) crc close := by rw [hs0,← hT,← hW]; simp [snOf]
    have h6 : Sep m (fun i => i < m.next) m6 (snH is ob vs { s0 xs.length with left := W,tr := 1 }) := h6
    rw [e1] at h6
    refine hq is _ m6 (h.addO h6) h6.toOld ⟨⟨ob,vs,rfl,by simp [snOf,hvs],fun e => by have := hob e; simp [snOf,this]⟩,snOf_w fun y hy => ?_⟩
    obtain ⟨x,hx1,rfl⟩ := List.mem_map.1 hy
    exact (hx.r x hx1).2
def nS (large : Bool) (n : Nat) : Nat := if large = true ∧ 1024 ≤ n then 1024 else 128
theorem nS_or (large : Bool) (n : Nat) : nS large n = 128 ∨ nS large n = 1024 := by unfold nS; split <;> simp
def splitF (large : Bool) : Nat → List UInt8 → List (List UInt8)
  | 0,_ => []
  | _ + 1,[] => []
  | k + 1,c :: l => ((c :: l).take (nS large (c :: l).length) ++ List.replicate (nS large (c :: l).length - (c :: l).length) 26) :: splitF large k ((c :: l).drop (nS large (c :: l).length))
def splitL (large : Bool) (d : List UInt8) : List (List UInt8) := splitF large d.length d
theorem splitF_nil (large : Bool) (k : Nat) : splitF large k [] = [] := by cases k <;> rfl
def paC : List Nat → List (List UInt8) → List Value
  | v :: vs,p :: ps => .slice (some ⟨v,0,none⟩) p.length 1 :: paC vs ps
  | _,_ => []
def paD : List Nat → List (List UInt8) → HL
  | v :: vs,p :: ps => byH (some v) p :: paD vs ps
  | _,_ => []
theorem paC_len : ∀ {vs : List Nat} {ps : List (List UInt8)},vs.length = ps.length → (paC vs ps).length = ps.length * 1
  | [],[],_ => rfl
  | v :: vs,b :: bs,h => by
    have := paC_len (vs := vs) (ps := bs) (by simpa using h)
    simp only [paC,List.length_cons,this]
    omega
theorem paC_app : ∀ {vs : List Nat} {ps : List (List UInt8)} (v : Nat) (p : List UInt8),vs.length = ps.length → paC (vs ++ [v]) (ps ++ [p]) = paC vs ps ++ [.slice (some ⟨v,0,none⟩) p.length 1]
  | [],[],v,b,_ => rfl
  | v0 :: vs,b0 :: bs,v,b,h => by
    simp only [List.cons_append,paC]
    rw [paC_app v b (by simpa using h)]
theorem paD_app : ∀ {vs : List Nat} {ps : List (List UInt8)} (v : Nat) (p : List UInt8),vs.length = ps.length → paD (vs ++ [v]) (ps ++ [p]) = paD vs ps ++ [byH (some v) p]
  | [],[],v,b,_ => rfl
  | v0 :: vs,b0 :: bs,v,b,h => by
    simp only [List.cons_append,paD]
    rw [paD_app v b (by simpa using h)]
theorem c_bSplit {w0 : World} {V : Nat → Prop} {m0 m : Mem} {l : HL} {v : Value} {D : List UInt8} {large : Bool} {Q : Value → Mem → Prop} (h : Sep m0 V m l) (hv : RdV (fun i => i < m.next) m 1 v (D.map byteV) D.length) (hD : D.length ≤ 1000000000000)
    (hq : ∀ oo vs M,Sep m0 V M (((oo,.own (paC vs (splitL large D)) 28) :: paD vs (splitL large D)) ++ l) → Old m M → vs.length = (splitL large D).length → (oo = none → (splitL large D).length = 0) → Q (slV oo (splitL large D).length 1) M) :
    AbC Tryz.prog w0 71 [v,.bool large] m Q := by
  refine AbC_fn ok71 (by simp) ?_
  simp -implicitDefEqProofs (disch := first | assumption | omega) [rc71,ro71,wkB,rtZ,sbZ,dC,ev,fiZ,pkZ,putAt,bnd,slD,gZ0,gZ1,Mem.cell,Mem.row,coZ,crZ]
  refine LoopW_of (fun k ts m' => ∃ (ps : List (List UInt8)) (vs : List Nat) (rest : List UInt8) (fuel : Nat) (vr : Value) (oo : Option Nat),rest.length = k ∧ ps.length + rest.length ≤ D.length ∧ Sep m (fun i => i < m.next) m' ((oo,.own (paC vs ps) 28) :: paD vs ps) ∧ vs.length = ps.length ∧ (oo = none → ps.length = 0) ∧
      RdV (fun i => i < m.next) m 1 vr (rest.map byteV) rest.length ∧ rest.length ≤ fuel ∧ splitL large D = ps ++ splitF large fuel rest ∧ ts 0 = vr ∧ ts 1 = .bool large ∧ ts 5 = slV oo ps.length 1) D.length ?_ ?_
  · exact ⟨[],[],D,D.length,v,none,rfl,by simp,(Sep.ofOld h.pt).non _,rfl,fun _ => rfl,hv,Nat.le_refl _,rfl,by simp [frA_at],by simp [frA_at],by simp [slV]⟩
  rintro k ts m1 K ⟨ps,vs,rest,fuel,vr,oo,rfl,hsum,h1,hvs,hoo,hr,hfu,hsp,t0,t1,t5⟩ hK
  have hsl := (hr.sep h1).sl.slen
  by_cases h0 : 0 < rest.length
  · have h0' : (0 : Int) < (rest.length : Nat) := by omega
    obtain ⟨f1,rfl⟩ : ∃ f1,fuel = f1 + 1 := ⟨fuel - 1,by omega⟩
    have hn := nS_or large rest.length
    obtain ⟨n,hnn⟩ : ∃ n,nS large rest.length = n := ⟨_,rfl⟩
    rw [hnn] at hn
    have hsp2 : splitF large (f1 + 1) rest = (rest.take n ++ List.replicate (n - rest.length) 26) :: splitF large f1 (rest.drop n) := by
      cases rest with
      | nil => simp at h0
      | cons c l => simp only [splitF]; rw [hnn]
    have main : ∀ (fr : Fr),fr 0 = vr → fr 1 = .bool large → fr 5 = slV oo ps.length 1 → fr 6 = .int .i64 (n : Int) → ∀ R : AQ,(∀ fr' M',(∃ (ps' : List (List UInt8)) (vs' : List Nat) (rest' : List UInt8) (fuel' : Nat) (vr' : Value) (oo' : Option Nat),rest'.length < rest.length ∧ ps'.length + rest'.length ≤ D.length ∧ Sep m (fun i => i < m.next) M' ((oo',.own (paC vs' ps') 28) :: paD vs' ps') ∧ vs'.length = ps'.length ∧ (oo' = none → ps'.length = 0) ∧
      RdV (fun i => i < m.next) m 1 vr' (rest'.map byteV) rest'.length ∧ rest'.length ≤ fuel' ∧ splitL large D = ps' ++ splitF large fuel' rest' ∧ fr' 0 = vr' ∧ fr' 1 = .bool large ∧ fr' 5 = slV oo' ps'.length 1) → R .normal fr' M') → AbW Tryz.prog w0 rc71_2 R fr m1 := by
      intro fr t0 t1 t5 t6 R hR
      obtain ⟨q,hqn⟩ : ∃ q,min n rest.length = q := ⟨_,rfl⟩
      have hql : q ≤ rest.length := by omega
      have hq1 : 1 ≤ q := by omega
      have hmn : (if rest.length < n then ((rest.length : Nat) : Int) else (n : Int)) = (q : Int) := by split <;> omega
      have hrs := (hr.sep h1).sl
      obtain ⟨v2,hv2,hr2,hb2⟩ := hrs.upto (k := q) hql
      obtain ⟨v3,hv3,hr3,hb3⟩ := hrs.behind (k := q) hql
      rw [Nat.mul_one,← List.map_take] at hr2
      rw [Nat.mul_one,← List.map_drop] at hr3
      have hr3m : RdV (fun i => i < m.next) m 1 v3 ((rest.drop q).map byteV) (rest.drop q).length := by
        obtain ⟨v3',hv3',hr3',hb3'⟩ := hr.sl.behind (k := q) hql
        rw [hv3] at hv3'
        cases hv3'
        rw [Nat.mul_one,← List.map_drop] at hr3'
        rw [List.length_drop]
        exact ⟨hr3',fun i hi => hr.bl i (hb3' i hi)⟩
      simp -implicitDefEqProofs (disch := first | assumption | omega) [rc71_2,wkB,rtZ,sbZ,dC,ev,fiZ,pkZ,putAt,bnd,slD,gZ0,gZ1,Mem.cell,Mem.row,coZ,crZ,t0,t1,t5,t6,hsl,hmn,hv2]
      have htl : (rest.take q).length = q := by rw [List.length_take]; omega
      obtain ⟨P0,hP0⟩ : ∃ P0,rest.take q = P0 := ⟨_,rfl⟩
      rw [hP0] at hr2 htl
      refine SK_nwS h1 (k := q) (ys := P0.map byteV) (by simp [wkB,rtZ,sbZ,dC,ev,fiZ,pkZ,putAt,bnd,slD,gZ0,gZ1,Mem.cell,Mem.row,coZ,crZ]) (by simp [wkB,rtZ,sbZ,dC,ev,fiZ,pkZ,putAt,bnd,slD,gZ0,gZ1,Mem.cell,Mem.row,coZ,crZ]; exact hr2.elems) (by simp [wkB,rtZ,sbZ,dC,ev,fiZ,pkZ,putAt,bnd,slD,gZ0,gZ1,Mem.cell,Mem.row,coZ,crZ]; exact hr2.lenV) (byteV_oneC _) (by omega) (by unfold maxLen; omega) (by simp [htl]) fun po m2 h2 hn2 _ => ?_
      obtain ⟨p0,rfl⟩ : ∃ p0,po = some p0 := by
        cases po with
        | none => have := hn2 rfl; omega
        | some w => exact ⟨w,rfl⟩
      have hs2 := (h2.slO 0 (k := q) (sz := 1) rfl (by simp [htl]) (fun e => by cases e)).read.slen
      simp -implicitDefEqProofs (disch := first | assumption | omega) [wkB,rtZ,sbZ,dC,ev,fiZ,pkZ,putAt,bnd,slD,gZ0,gZ1,Mem.cell,Mem.row,coZ,crZ,t0,hs2,hv3]
      refine LoopW_of (fun k2 ts2 m' => ∃ (j : Nat) (pi : Nat),q + j + k2 = n ∧ Sep m (fun i => i < m.next) m' (byH (some pi) (P0 ++ List.replicate j 26) :: (oo,.own (paC vs ps) 28) :: paD vs ps) ∧ ts2 0 = v3 ∧ ts2 1 = .bool large ∧ ts2 5 = slV oo ps.length 1 ∧ ts2 6 = .int .i64 (n : Int) ∧ ts2 7 = slV (some pi) (q + j) 1) (n - q) ?_ ?_
      · exact ⟨0,p0,by omega,by simpa [byH] using h2,by simp,by simp [t1],by simp [t5],by simp [t6],by simp⟩
      rintro k2 ts2 m3 K2 ⟨j,pi,hj,h3,u0,u1,u5,u6,u7⟩ hK2
      have hpl : (P0 ++ List.replicate j (26 : UInt8)).length = q + j := by simp [htl]
      have hO3 := (h3.slO 0 (k := q + j) (sz := 1) rfl (by simp [htl]) (fun e => by cases e)).read
      have hs3 := hO3.slen
      by_cases hjn : q + j < n
      · have hjn' : ((q + j : Nat) : Int) < (n : Int) := by omega
        obtain ⟨J,hJ⟩ : ∃ J,q + j = J := ⟨_,rfl⟩
        rw [hJ] at hjn' hs3 u7 hpl hjn
        simp -implicitDefEqProofs (disch := first | assumption | omega) [rc71_1,rc71_0,wkB,rtZ,sbZ,dC,ev,fiZ,pkZ,putAt,bnd,slD,gZ0,gZ1,Mem.cell,Mem.row,coZ,crZ,u6,u7,hs3,hjn,hjn']
        refine SK_bslS h3 (cs := ([26] : List UInt8).map byteV) (by simp [fiZ,pkZ,wkB,rtZ,sbZ,dC,ev,fiZ,pkZ,putAt,bnd,slD,gZ0,gZ1,Mem.cell,Mem.row,coZ,crZ,byteV]) rfl fun b4 m4 h4 _ _ => ?_
        have hO4 := (h4.slO 0 (k := 1) (sz := 1) rfl rfl (fun e => by cases e)).read
        simp -implicitDefEqProofs (disch := first | assumption | omega) [wkB,rtZ,sbZ,dC,ev,fiZ,pkZ,putAt,bnd,slD,gZ0,gZ1,Mem.cell,Mem.row,coZ,crZ]
        refine SK_apS h4 1 (n := J) (k := 1) (ys := ([26] : List UInt8).map byteV) rfl (by simp [wkB,rtZ,sbZ,dC,ev,fiZ,pkZ,putAt,bnd,slD,gZ0,gZ1,Mem.cell,Mem.row,coZ,crZ]) (by rw [List.length_map,hpl,Nat.mul_one]) (fun e => by cases e) (by simp [wkB,rtZ,sbZ,dC,ev,fiZ,pkZ,putAt,bnd,slD,gZ0,gZ1,Mem.cell,Mem.row,coZ,crZ]; exact hO4.elems) (by simp [wkB,rtZ,sbZ,dC,ev,fiZ,pkZ,putAt,bnd,slD,gZ0,gZ1,Mem.cell,Mem.row,coZ,crZ]) (byteV_oneC _) (by omega) (by unfold maxLen; omega) rfl fun pj m5 h5 hn5 _ => ?_
        obtain ⟨pj,rfl⟩ : ∃ i,pj = some i := by
          cases pj with
          | none => have := hn5 rfl; omega
          | some w => exact ⟨w,rfl⟩
        have e6 : (P0 ++ List.replicate j (26 : UInt8)).map byteV ++ ([26] : List UInt8).map byteV = (P0 ++ List.replicate (j + 1) 26).map byteV := by rw [List.replicate_succ']; simp
        rw [e6] at h5
        simp -implicitDefEqProofs (disch := first | assumption | omega) [wkB,rtZ,sbZ,dC,ev,fiZ,pkZ,putAt,bnd,slD,gZ0,gZ1,Mem.cell,Mem.row,coZ,crZ]
        exact hK2 (k2 - 1) _ _ (by omega) ⟨j + 1,pj,by omega,h5.tl,by simp [u0],by simp [u1],by simp [u5],by simp [u6],by rw [show q + (j + 1) = J + 1 by omega]; simp⟩
      · have hjn2 : q + j = n := by omega
        have hjn' : ¬ ((q + j : Nat) : Int) < (n : Int) := by omega
        have hj2 : j = n - rest.length := by omega
        have hpart : P0 ++ List.replicate j (26 : UInt8) = rest.take n ++ List.replicate (n - rest.length) 26 := by
          rw [hj2,← hP0]
          congr 1
          rw [← hqn]
          rcases Nat.le_total n rest.length with h | h
          · rw [Nat.min_eq_left h]
          · rw [Nat.min_eq_right h,List.take_of_length_le (Nat.le_refl _),List.take_of_length_le h]
        have hdrop : rest.drop q = rest.drop n := by
          rw [← hqn]
          rcases Nat.le_total n rest.length with h | h
          · rw [Nat.min_eq_left h]
          · rw [Nat.min_eq_right h,List.drop_of_length_le (Nat.le_refl _),List.drop_of_length_le h]
        rw [hjn2] at hs3 u7 hpl
        rw [hpart] at h3 hpl
        rw [hdrop] at hr3m
        generalize rest.take n ++ List.replicate (n - rest.length) (26 : UInt8) = P at *
        simp -implicitDefEqProofs (disch := first | assumption | omega) [rc71_1,wkB,rtZ,sbZ,dC,ev,fiZ,pkZ,putAt,bnd,slD,gZ0,gZ1,Mem.cell,Mem.row,coZ,crZ,u5,u6,u7,hs3]
        refine SK_bslS h3 (cs := [.slice (some ⟨pi,0,none⟩) n 1]) (by simp [fiZ,pkZ,wkB,rtZ,sbZ,dC,ev,fiZ,pkZ,putAt,bnd,slD,gZ0,gZ1,Mem.cell,Mem.row,coZ,crZ,u7,slV]) rfl fun b4 m4 h4 _ _ => ?_
        have hO4 := (h4.slO 0 (k := 1) (sz := 1) rfl rfl (fun e => by cases e)).read
        simp -implicitDefEqProofs (disch := first | assumption | omega) [wkB,rtZ,sbZ,dC,ev,fiZ,pkZ,putAt,bnd,slD,gZ0,gZ1,Mem.cell,Mem.row,coZ,crZ,u5]
        refine SK_apS h4 2 (n := ps.length) (k := 1) (ys := [.slice (some ⟨pi,0,none⟩) n 1]) rfl (by simp [wkB,rtZ,sbZ,dC,ev,fiZ,pkZ,putAt,bnd,slD,gZ0,gZ1,Mem.cell,Mem.row,coZ,crZ]) (paC_len hvs) hoo (by simp [wkB,rtZ,sbZ,dC,ev,fiZ,pkZ,putAt,bnd,slD,gZ0,gZ1,Mem.cell,Mem.row,coZ,crZ]; exact hO4.elems) (by simp [wkB,rtZ,sbZ,dC,ev,fiZ,pkZ,putAt,bnd,slD,gZ0,gZ1,Mem.cell,Mem.row,coZ,crZ]) rfl (by omega) (by unfold maxLen; omega) rfl fun o5 m5 h5 hn5 _ => ?_
        simp -implicitDefEqProofs (disch := first | assumption | omega) [wkB,rtZ,sbZ,dC,ev,fiZ,pkZ,putAt,bnd,slD,gZ0,gZ1,Mem.cell,Mem.row,coZ,crZ]
        have h6 := (h5.tl).perm (List.perm_append_comm (l₁ := [byH (some pi) P]))
        refine hR _ m5 ⟨ps ++ [P],vs ++ [pi],rest.drop n,f1,v3,o5,by rw [List.length_drop]; omega,by simp only [List.length_append,List.length_drop,List.length_singleton]; omega,?_,by simp [hvs],fun e => by have := hn5 e; omega,hr3m,by rw [List.length_drop]; omega,by rw [hsp,hsp2]; simp,by simp [u0],by simp [u1],by simp⟩
        rw [paC_app pi P hvs,paD_app pi P hvs,hpl]
        exact h6
    cases large with
    | false =>
      have hn8 : n = 128 := by rw [← hnn]; unfold nS; rw [if_neg (fun h => by cases h.1)]
      subst hn8
      simp -implicitDefEqProofs (disch := first | assumption | omega) [rc71_4,rc71_3,wkB,rtZ,sbZ,dC,ev,fiZ,pkZ,putAt,bnd,slD,gZ0,gZ1,Mem.cell,Mem.row,coZ,crZ,t0,t1,hsl,h0,h0']
      refine main _ (by simp [t0]) (by simp [t1]) (by simp [t5]) (by simp) _ fun fr' M' hE => ?_
      obtain ⟨ps',vs',rest',fuel',vr',oo',e1,e2⟩ := hE
      simp -implicitDefEqProofs (disch := first | assumption | omega) [wkB,rtZ,sbZ,dC,ev,fiZ,pkZ,putAt,bnd,slD,gZ0,gZ1,Mem.cell,Mem.row,coZ,crZ]
      exact hK rest'.length _ _ e1 ⟨ps',vs',rest',fuel',vr',oo',rfl,e2⟩
    | true =>
      by_cases hb : 1024 ≤ rest.length
      · have hb' : (1024 : Int) ≤ (rest.length : Nat) := by omega
        have hn8 : n = 1024 := by rw [← hnn]; unfold nS; rw [if_pos ⟨rfl,hb⟩]
        subst hn8
        simp -implicitDefEqProofs (disch := first | assumption | omega) [rc71_4,rc71_3,wkB,rtZ,sbZ,dC,ev,fiZ,pkZ,putAt,bnd,slD,gZ0,gZ1,Mem.cell,Mem.row,coZ,crZ,t0,t1,hsl,h0,h0',hb,hb']
        refine main _ (by simp [t0]) (by simp [t1]) (by simp [t5]) (by simp) _ fun fr' M' hE => ?_
        obtain ⟨ps',vs',rest',fuel',vr',oo',e1,e2⟩ := hE
        simp -implicitDefEqProofs (disch := first | assumption | omega) [wkB,rtZ,sbZ,dC,ev,fiZ,pkZ,putAt,bnd,slD,gZ0,gZ1,Mem.cell,Mem.row,coZ,crZ]
        exact hK rest'.length _ _ e1 ⟨ps',vs',rest',fuel',vr',oo',rfl,e2⟩
      · have hb' : ¬ (1024 : Int) ≤ (rest.length : Nat) := by omega
        have hn8 : n = 128 := by rw [← hnn]; unfold nS; rw [if_neg (fun h => hb h.2)]
        subst hn8
        simp -implicitDefEqProofs (disch := first | assumption | omega) [rc71_4,rc71_3,wkB,rtZ,sbZ,dC,ev,fiZ,pkZ,putAt,bnd,slD,gZ0,gZ1,Mem.cell,Mem.row,coZ,crZ,t0,t1,hsl,h0,h0',hb,hb']
        refine main _ (by simp [t0]) (by simp [t1]) (by simp [t5]) (by simp) _ fun fr' M' hE => ?_
        obtain ⟨ps',vs',rest',fuel',vr',oo',e1,e2⟩ := hE
        simp -implicitDefEqProofs (disch := first | assumption | omega) [wkB,rtZ,sbZ,dC,ev,fiZ,pkZ,putAt,bnd,slD,gZ0,gZ1,Mem.cell,Mem.row,coZ,crZ]
        exact hK rest'.length _ _ e1 ⟨ps',vs',rest',fuel',vr',oo',rfl,e2⟩
  · have hr0 : rest = [] := List.length_eq_zero_iff.1 (by omega)
    subst hr0
    rw [splitF_nil,List.append_nil] at hsp
    have hsl0 : slen vr = some (.int .i64 0) := hsl
    simp -implicitDefEqProofs (disch := first | assumption | omega) [rc71_4,rc71_5,wkB,rtZ,sbZ,dC,ev,fiZ,pkZ,putAt,bnd,slD,gZ0,gZ1,Mem.cell,Mem.row,coZ,crZ,t0,t5,hsl0]
    rw [hsp] at hq
    exact hq oo vs m1 (h.addO h1) h1.toOld hvs hoo
def numL (ps : List (List UInt8)) : List Bk := ps.mapIdx fun k p => (UInt8.ofNat (k + 1),p)
theorem numL_app (ps : List (List UInt8)) (p : List UInt8) : numL (ps ++ [p]) = numL ps ++ [(UInt8.ofNat (ps.length + 1),p)] := by unfold numL; rw [List.mapIdx_concat]
theorem numL_len (ps : List (List UInt8)) : (numL ps).length = ps.length := by simp [numL]
theorem u8_no (j : Nat) : IntKind.u8.wrap ((j + 1 : Nat) : Int) = ((UInt8.ofNat (j + 1)).toNat : Int) := by
  rw [IntKind.wrap_u8,UInt8.toNat_ofNat']; omega
theorem c_bNumber {w0 : World} {V : Nat → Prop} {m0 m : Mem} {l : HL} {v : Value} {xs : List (Value × List UInt8)} {Q : Value → Mem → Prop} (h : Sep m0 V m l) (hv : RdV (fun i => i < m.next) m 1 v (xs.flatMap fun x => [x.1]) xs.length) (hx : ∀ x ∈ xs,RdV (fun i => i < m.next) m 1 x.1 (x.2.map byteV) x.2.length ∧ 1 ≤ x.2.length ∧ x.2.length ≤ 1024) (hn : xs.length ≤ 1000000000000)
    (hq : ∀ ob vs M,Sep m0 V M (((ob,.own (bkC vs (numL (xs.map (·.2)))) 221) :: bkD vs (numL (xs.map (·.2)))) ++ l) → Old m M → vs.length = xs.length → (ob = none → xs.length = 0) → Q (slV ob xs.length 2) M) :
    AbC Tryz.prog w0 73 [v] m Q := by
  refine AbC_fn ok73 (by simp) ?_
  simp -implicitDefEqProofs (disch := first | assumption | omega) [rc73,ro73,wkB,rtZ,sbZ,dC,ev,fiZ,pkZ,putAt,bnd,slD,gZ0,gZ1,Mem.cell,Mem.row,coZ,crZ,hv.sl.slen]
  have hbl : ∀ j,j ≤ xs.length → (numL ((xs.take j).map (·.2))).length = j := fun j hj => by rw [numL_len]; simp; omega
  refine LoopW_of (fun k ts m' => ∃ (j : Nat) (ob : Option Nat) (vs : List Nat),j + k = xs.length ∧ Sep m (fun i => i < m.next) m' ((ob,.own (bkC vs (numL ((xs.take j).map (·.2)))) 221) :: bkD vs (numL ((xs.take j).map (·.2)))) ∧ vs.length = j ∧ (ob = none → j = 0) ∧
    ts 3 = slV ob j 2 ∧ ts 6 = v ∧ ts 7 = .int .i64 (xs.length : Nat) ∧ ts 8 = .int .i64 (j : Nat)) xs.length ?_ ?_
  · exact ⟨0,none,[],by omega,(Sep.ofOld h.pt).non _,rfl,fun _ => rfl,by simp [slV],by simp [frA_at],by simp,by simp⟩
  rintro k ts m4 K ⟨j,ob,vs,hj,h4,hvs,hob,t3,t6,t7,t8⟩ hK
  by_cases hjl : j < xs.length
  · have hjl' : (j : Int) < (xs.length : Nat) := by omega
    have wj : IntKind.i64.wrap ((j : Int) + 1) = ((j + 1 : Nat) : Int) := by rw [w64 (by omega)]; omega
    have hno := u8_no j
    have hrow := flat_at (f := fun x : Value × List UInt8 => [x.1]) (fun _ => rfl) xs (List.getElem?_eq_getElem hjl)
    obtain ⟨i,o,L,hi1,hi2,hi3,hi4,hi5⟩ := (hv.sep h4).sl.cells_at hjl hrow
    obtain ⟨x,hxj⟩ : ∃ x,xs[j] = x := ⟨_,rfl⟩
    obtain ⟨hxr,hx1,hx2⟩ := hx x (by rw [← hxj]; exact List.getElem_mem hjl)
    have hxg : xs[j]? = some x := by rw [List.getElem?_eq_getElem hjl,hxj]
    rw [hxj] at hi5
    obtain ⟨dv,d⟩ := x
    simp only at hxr hx1 hx2
    have hg : L[o + j * 1]? = some dv := by
      have := congrArg (fun q : List Value => q[0]?) hi5
      simpa [List.getElem?_take,List.getElem?_drop] using this
    rw [Nat.mul_one] at hg hi2
    have hx6 := (hxr.sep h4).sl
    have htk : (xs.take (j + 1)).map (·.2) = (xs.take j).map (·.2) ++ [d] := by rw [List.take_add_one,hxg]; simp
    have hnl : numL ((xs.take (j + 1)).map (·.2)) = numL ((xs.take j).map (·.2)) ++ [(UInt8.ofNat (j + 1),d)] := by
      rw [htk,numL_app]
      have : ((xs.take j).map (·.2)).length = j := by simp; omega
      rw [this]
    have hvl : vs.length = (numL ((xs.take j).map (·.2))).length := by rw [hbl j (by omega)]; exact hvs
    have hcl : (bkC vs (numL ((xs.take j).map (·.2)))).length = j * 2 := by rw [bkC_len hvl,hbl j (by omega)]
    obtain ⟨J,hJ⟩ : ∃ J,j + 1 = J := ⟨_,rfl⟩
    rw [hJ] at wj hno hnl
    simp -implicitDefEqProofs (disch := first | assumption | omega) [rc73_1,rc73_0,wkB,rtZ,sbZ,dC,ev,fiZ,pkZ,putAt,bnd,slD,gZ0,gZ1,Mem.cell,Mem.row,coZ,crZ,t3,t6,t7,t8,hjl,hjl',hi2,hi3,hg,getL1 hg,wj,hno]
    refine SK_nwS h4 (k := d.length) (ys := d.map byteV) (by simp [wkB,rtZ,sbZ,dC,ev,fiZ,pkZ,putAt,bnd,slD,gZ0,gZ1,Mem.cell,Mem.row,coZ,crZ]) (by simp [wkB,rtZ,sbZ,dC,ev,fiZ,pkZ,putAt,bnd,slD,gZ0,gZ1,Mem.cell,Mem.row,coZ,crZ]; exact hx6.elems) (by simp [wkB,rtZ,sbZ,dC,ev,fiZ,pkZ,putAt,bnd,slD,gZ0,gZ1,Mem.cell,Mem.row,coZ,crZ]; exact hx6.lenV) (byteV_oneC _) (by omega) (by unfold maxLen; omega) (by simp) fun od m7 h7 hn7 _ => ?_
    obtain ⟨w,rfl⟩ : ∃ w,od = some w := by
      cases od with
      | none => have := hn7 rfl; omega
      | some w => exact ⟨w,rfl⟩
    simp -implicitDefEqProofs (disch := first | assumption | omega) [wkB,rtZ,sbZ,dC,ev,fiZ,pkZ,putAt,bnd,slD,gZ0,gZ1,Mem.cell,Mem.row,coZ,crZ,t3]
    refine SK_bslS h7 (cs := [.int .u8 ((UInt8.ofNat J).toNat : Int),.slice (some ⟨w,0,none⟩) d.length 1]) (by simp [fiZ,pkZ,wkB,rtZ,sbZ,dC,ev,fiZ,pkZ,putAt,bnd,slD,gZ0,gZ1,Mem.cell,Mem.row,coZ,crZ,slV]) rfl fun b8 m8 h8 _ _ => ?_
    have hO8 := (h8.slO 0 (k := 1) (sz := 2) rfl rfl (fun e => by cases e)).read
    simp -implicitDefEqProofs (disch := first | assumption | omega) [wkB,rtZ,sbZ,dC,ev,fiZ,pkZ,putAt,bnd,slD,gZ0,gZ1,Mem.cell,Mem.row,coZ,crZ,t3]
    refine SK_apS h8 2 (n := j) (k := 1) (ys := [.int .u8 ((UInt8.ofNat J).toNat : Int),.slice (some ⟨w,0,none⟩) d.length 1]) rfl (by simp [wkB,rtZ,sbZ,dC,ev,fiZ,pkZ,putAt,bnd,slD,gZ0,gZ1,Mem.cell,Mem.row,coZ,crZ]) hcl hob (by simp [wkB,rtZ,sbZ,dC,ev,fiZ,pkZ,putAt,bnd,slD,gZ0,gZ1,Mem.cell,Mem.row,coZ,crZ]; exact hO8.elems) (by simp [wkB,rtZ,sbZ,dC,ev,fiZ,pkZ,putAt,bnd,slD,gZ0,gZ1,Mem.cell,Mem.row,coZ,crZ]) rfl (by omega) (by unfold maxLen; omega) rfl fun ob9 m9 h9 hn9 _ => ?_
    simp -implicitDefEqProofs (disch := first | assumption | omega) [wkB,rtZ,sbZ,dC,ev,fiZ,pkZ,putAt,bnd,slD,gZ0,gZ1,Mem.cell,Mem.row,coZ,crZ,t8,wj]
    have h11 := (h9.tl).perm (List.perm_append_comm (l₁ := [byH (some w) d]))
    refine hK (k - 1) _ _ (by omega) ⟨J,ob9,vs ++ [w],by omega,?_,by simp [hvs]; omega,fun e => by have := hn9 e; omega,by rw [← hJ]; simp,by simp [t6],by simp [t7],by simp⟩
    rw [hnl,bkC_app w (UInt8.ofNat J,d) hvl,bkD_app w (UInt8.ofNat J,d) hvl]
    exact h11
  · have hjj : j = xs.length := by omega
    subst hjj
    rw [List.take_length] at h4
    simp -implicitDefEqProofs (disch := first | assumption | omega) [rc73_1,rc73_2,wkB,rtZ,sbZ,dC,ev,fiZ,pkZ,putAt,bnd,slD,gZ0,gZ1,Mem.cell,Mem.row,coZ,crZ,t3,t7,t8]
    exact hq ob vs m4 (h.addO h4) h4.toOld hvs hob
theorem catB (a b : List UInt8) (h : a.length + b.length ≤ 9223372036854775807) : dBin .add (.string ⟨⟨a⟩⟩) (.string ⟨⟨b⟩⟩) = some (.string ⟨⟨a ++ b⟩⟩) := by
  have e : (ByteArray.mk ⟨a⟩) ++ (ByteArray.mk ⟨b⟩) = ⟨⟨a ++ b⟩⟩ := by
    apply ByteArray.ext
    simp
  rw [dBin_sadd (by show a.length + b.length ≤ _; omega),e]
theorem catE (a b : List UInt8) (h : a.length + b.length ≤ 9223372036854775807) : ∃ e : List UInt8,a ++ b = e ∧ e.length = a.length + b.length ∧ dBin .add (.string ⟨⟨a⟩⟩) (.string ⟨⟨b⟩⟩) = some (.string ⟨⟨e⟩⟩) := ⟨_,rfl,by simp,catB a b h⟩
def loadW : List UInt8 := [108,111,97,100,32]
def wayL (k : Nat) : List UInt8 := if k = 0 then [99,104,101,99,107] else if k = 1 then [99,114,99] else if k = 2 then [108,97,114,103,101] else [98,97,116,99,104]
def wayN (w : Int) : Nat := if w ≤ 0 then 0 else if w = 1 then 1 else if w = 2 then 2 else 3
def loadL (k : Nat) (a : Int) : List UInt8 := loadW ++ wayL k ++ [32] ++ numS 16 a ++ [13]
theorem num16 {i : Int} (hi : -9223372036854775808 ≤ i ∧ i ≤ 9223372036854775807) : (numS 16 i).length ≤ 17 := numS_len (by omega) (L := 16) (by omega) (by omega)
theorem way_k (w : Int) : ∃ k : Nat,k < 4 ∧ wayN w = k ∧ (if (0 : Int) < (if (3 : Int) < w then 3 else w) then (if (3 : Int) < w then 3 else w) else 0) = (k : Int) := by
  unfold wayN
  by_cases h0 : w ≤ 0
  · exact ⟨0,by omega,by rw [if_pos h0],by split <;> split <;> omega⟩
  by_cases h1 : w = 1
  · subst h1; exact ⟨1,by omega,by simp,by simp⟩
  by_cases h2 : w = 2
  · subst h2; exact ⟨2,by omega,by simp,by simp⟩
  · exact ⟨3,by omega,by rw [if_neg h0,if_neg h1,if_neg h2],by split <;> split <;> omega⟩
def waysC : List Value := [.string ⟨⟨wayL 0⟩⟩,.string ⟨⟨wayL 1⟩⟩,.string ⟨⟨wayL 2⟩⟩,.string ⟨⟨wayL 3⟩⟩]
theorem ways_at {k : Nat} (hk : k < 4) : waysC[k]? = some (.string ⟨⟨wayL k⟩⟩) := by
  rcases (show k = 0 ∨ k = 1 ∨ k = 2 ∨ k = 3 by omega) with rfl | rfl | rfl | rfl <;> rfl
theorem c_Ways {w0 : World} {m : Mem} {Q : Value → Mem → Prop} (hq : Q (.slice (some ⟨m.next,0,none⟩) 4 1) (m.push (.own waysC 9))) : AbC Tryz.prog w0 46 [] m Q := by
  refine AbC_fn ok46 (by simp) ?_
  simp -implicitDefEqProofs (disch := first | assumption | (simp only [wnA]; done) | (simp only [wnA]; omega) | omega) [rc46,ro46,wkA,rtZ,sbZ,dC,ev,fiZ,pkZ,putAt,bnd,slD,gZ0,gZ1,dR_sl,Mem.cell,Mem.row,wmA]
  rw [SK_bsl (cs := waysC) (by simp [fiZ,pkZ,wkA,rtZ,sbZ,dC,ev,fiZ,pkZ,putAt,bnd,slD,gZ0,gZ1,dR_sl,waysC,wayL]) rfl]
  simp -implicitDefEqProofs (disch := first | assumption | (simp only [wnA]; done) | (simp only [wnA]; omega) | omega) [wkA,rtZ,sbZ,dC,ev,fiZ,pkZ,putAt,bnd,slD,gZ0,gZ1,dR_sl,Mem.cell,Mem.row,wmA]
  exact hq
theorem c_Load {w0 : World} {m : Mem} {w a : Int} {Q : Value → Mem → Prop} (hp : Part L0 m) (ht : Ten w0) (ha : -9223372036854775808 ≤ a ∧ a ≤ 9223372036854775807)
    (hq : ∀ m',Old m m' → Q (.string ⟨⟨loadL (wayN w) a⟩⟩) m') : AbC Tryz.prog w0 21 [.int .i64 w,.int .i64 a] m Q := by
  refine AbC_fn ok21 (by simp) ?_
  have la := num16 ha
  unfold loadL loadW at hq
  obtain ⟨k,hk,hk1,hk2⟩ := way_k w
  rw [hk1] at hq
  simp -implicitDefEqProofs (disch := first | assumption | (simp only [wnA]; done) | (simp only [wnA]; omega) | omega) [rc21,ro21,wkA,rtZ,sbZ,dC,ev,fiZ,pkZ,putAt,bnd,slD,gZ0,gZ1,dR_sl,Mem.cell,Mem.row,wmA,hk2]
  refine c_Ways ?_
  have hidx : sidx 1 (.slice (some ⟨m.next,0,none⟩) 4 1) (.int .i64 (k : Int)) = some (.pointer (some ⟨m.next,0 + k * 1,none⟩)) := sidx_at hk
  have hat := ways_at hk
  have hw : (wayL k).length ≤ 5 := by rcases (show k = 0 ∨ k = 1 ∨ k = 2 ∨ k = 3 by omega) with rfl | rfl | rfl | rfl <;> decide
  have hg : (m.push (.own waysC 9)).get m.next = .own waysC 9 := by simp
  have hp1 : Part L0 (m.push (.own waysC 9)) := Old.part hp ((Old.refl m).push _)
  have o0 : Old m (m.push (.own waysC 9)) := (Old.refl m).push _
  have hm : m.next < (m.push (.own waysC 9)).next := by simp
  generalize m.push (.own waysC 9) = m0 at *
  generalize wayL k = W at *
  generalize waysC = C at *
  obtain ⟨E1,hE1,l1,k1⟩ := catE [108,111,97,100,32] W (by simp; omega)
  simp only [List.length_cons,List.length_nil] at l1
  obtain ⟨E2,hE2,l2,k2⟩ := catE E1 [32] (by simp; omega)
  simp only [List.length_cons,List.length_nil] at l2
  have k1 : dBin .add (.string ⟨#[108,111,97,100,32]⟩) (.string ⟨⟨W⟩⟩) = some (.string ⟨⟨E1⟩⟩) := k1
  have k2 : dBin .add (.string ⟨⟨E1⟩⟩) (.string ⟨#[32]⟩) = some (.string ⟨⟨E2⟩⟩) := k2
  rw [hE1,hE2] at hq
  have hidx : sidx 1 (.slice (some ⟨m.next,0,none⟩) 4 1) (.int .i64 (k : Int)) = some (.pointer (some ⟨m.next,k,none⟩)) := by rw [hidx]; simp
  obtain ⟨hlt,hat'⟩ := List.getElem?_eq_some_iff.1 hat
  simp -implicitDefEqProofs (disch := first | assumption | (simp only [wnA]; done) | (simp only [wnA]; omega) | omega) [wkA,rtZ,sbZ,dC,ev,fiZ,pkZ,putAt,bnd,slD,gZ0,gZ1,dR_sl,Mem.cell,Mem.row,wmA,hk2,hidx,hg,hat,hat',hlt,k1,k2]
  refine c_FormatInt (B := 16) hp1 ht (by omega) ha fun m1 o1 => ?_
  have g1 : m1.get m.next = .own C 9 := by rw [o1.2 _ hm]; exact hg
  generalize numS 16 a = A at *
  obtain ⟨E3,hE3,l3,k3⟩ := catE E2 A (by omega)
  obtain ⟨E4,hE4,l4,k4⟩ := catE E3 [13] (by simp; omega)
  have k4 : dBin .add (.string ⟨⟨E3⟩⟩) (.string ⟨#[13]⟩) = some (.string ⟨⟨E4⟩⟩) := k4
  rw [hE3,hE4] at hq
  simp -implicitDefEqProofs (disch := first | assumption | (simp only [wnA]; done) | (simp only [wnA]; omega) | omega) [wkA,rtZ,sbZ,dC,ev,fiZ,pkZ,putAt,bnd,slD,gZ0,gZ1,dR_sl,Mem.cell,Mem.row,wmA,k3,k4,g1,hat,hat',hlt]
  exact hq _ (o0.trans o1)
theorem u8any (z : Int) : ∃ c : UInt8,IntKind.u8.wrap z = (c.toNat : Int) := by
  have h1 : IntKind.u8.wrap z = z % 256 := by
    simp only [IntKind.wrap,IntKind.bits,IntKind.signed]; simp
  refine ⟨UInt8.ofNat (z % 256).toNat,?_⟩
  rw [h1]
  simp
  omega
theorem c_Data {w0 : World} {X : Nat → Prop} {m : Mem} {v : Value} {b : List UInt8} {long : Bool} {Q : Value → Mem → Prop} (hp : Part L0 m) (hr : RdV X m 1 v (b.map byteV) b.length) (hb : b.length ≤ 9223372036854775807)
    (hq : ∀ (d : List UInt8) x M,Old m M → m.next ≤ x → x < M.next → M.get x = .own (d.map byteV) 5 → d.length = (if long then 1024 else 128) → Q (.slice (some ⟨x,0,none⟩) d.length 1) M) :
    AbC Tryz.prog w0 23 [v,.bool long] m Q := by
  refine AbC_fn ok23 (by simp) ?_
  obtain ⟨n,hn⟩ : ∃ n : Nat,n = if long then 1024 else 128 := ⟨_,rfl⟩
  have hn2 : n = 1024 ∨ n = 128 := by rw [hn]; cases long <;> simp
  have key : ∀ fr,fr 0 = v → fr 5 = .int .i64 (n : Int) → AbW Tryz.prog w0 rc23_3 (bodyA [.mv (.tmp 4)] Q) fr m := by
    intro fr t0 t5
    have hrr := hr.o
    simp -implicitDefEqProofs (disch := first | assumption | omega) [rc23_3,wkB,rtZ,sbZ,dC,ev,fiZ,pkZ,putAt,bnd,slD,gZ0,gZ1,Mem.cell,Mem.row,coZ,crZ,t0,t5]
    refine SK_mkS (Sep.ofOld hp) (n := n) (by simp [wkB,rtZ,sbZ,dC,ev,fiZ,pkZ,putAt,bnd,slD,gZ0,gZ1,Mem.cell,Mem.row,coZ,crZ,t5]) (by simp [wkB,rtZ,sbZ,dC,ev,fiZ,pkZ,putAt,bnd,slD,gZ0,gZ1,Mem.cell,Mem.row,coZ,crZ,t5]) (by omega) (by unfold maxLen; omega) fun x m1 h1 _ _ => ?_
    simp -implicitDefEqProofs (disch := first | assumption | omega) [wkB,rtZ,sbZ,dC,ev,fiZ,pkZ,putAt,bnd,slD,gZ0,gZ1,Mem.cell,Mem.row,coZ,crZ,t0,t5]
    refine LoopW_of (fun k ts m' => ∃ j,∃ l : List UInt8,j + k = n ∧ l.length = n ∧ Sep m (fun i => i < m.next) m' [(some x,.own (l.map byteV) 5)] ∧ ts 0 = v ∧ ts 6 = .slice (some ⟨x,0,none⟩) n 1 ∧ ts 12 = .int .i64 (n : Int) ∧ ts 13 = .int .i64 (j : Nat)) n ?_ ?_
    · exact ⟨0,List.replicate n 0,by omega,by simp,by rw [List.map_replicate]; exact h1,by simp [t0],by simp,by simp,by simp⟩
    · rintro k ts m' K ⟨j,l,hj,hl,h2,t0,t6,t12,t13⟩ hK
      have hsl := hrr.sl.slen
      by_cases hjl : j < n
      · have hj8 : (j : Int) < (n : Int) := by omega
        have w1 : IntKind.i64.wrap ((j : Int) + 1) = (j : Int) + 1 := w64 (by omega)
        by_cases hb0 : 0 < b.length
        · have hb8 : (0 : Int) < (b.length : Int) := by omega
          have r1 : dBin .rem (.int .i64 (j : Int)) (.int .i64 (b.length : Int)) = some (.int .i64 ((j % b.length : Nat) : Int)) := by
            rw [dBin_rem (by omega),Int.tmod_eq_emod_of_nonneg (by omega)]; rfl
          have q1 : dBin .quo (.int .i64 (j : Int)) (.int .i64 (b.length : Int)) = some (.int .i64 ((j / b.length : Nat) : Int)) := by
            have hle : j / b.length ≤ j := Nat.div_le_self _ _
            rw [dBin_quo (by omega),Int.tdiv_eq_ediv_of_nonneg (by omega)]
            rw [show (j : Int) / (b.length : Int) = ((j / b.length : Nat) : Int) from rfl]
            generalize j / b.length = z at *
            rw [w64 (by omega)]
          have hlt : j % b.length < b.length := Nat.mod_lt _ hb0
          generalize j % b.length = p at *
          generalize j / b.length = q at *
          obtain ⟨i,o,L,e1,e2,e3,e4,e5,e6⟩ := (hrr.sep h2).ex hb0
          have hc : L[o + p]? = some (byteV (b.getD p 0)) := (e4 p hlt).trans (byte_at hlt)
          simp only [byteV] at hc
          have hidx : sidx 1 v (.int .i64 (p : Int)) = some (.pointer (some ⟨i,o + p,none⟩)) := by rw [e1]; simpa using sidx_at (b := i) (o := o) (n := b.length) (c := 1) (j := p) (sz := 1) (k := .i64) hlt
          have hidj : sidx 1 (.slice (some ⟨x,0,none⟩) n 1) (.int .i64 (j : Int)) = some (.pointer (some ⟨x,j,none⟩)) := by simpa using sidx_at (b := x) (o := 0) (n := n) (c := 1) (j := j) (sz := 1) (k := .i64) hjl
          generalize b.getD p 0 = c at *
          obtain ⟨c2,hc2⟩ := u8any ((q : Nat) : Int)
          obtain ⟨c3,hc3⟩ := u8any ((c.toNat : Int) + (c2.toNat : Int))
          simp -implicitDefEqProofs (disch := first | assumption | omega) [rc23_1,rc23_0,wkB,rtZ,sbZ,dC,ev,fiZ,pkZ,putAt,bnd,slD,gZ0,gZ1,Mem.cell,Mem.row,coZ,crZ,t0,t6,t12,t13,hj8,hsl,hb0,hb8,r1,q1,hidx,hidj,e2,hc,getL1 hc,hc2,hc3]
          refine SK_stS h2 0 rfl (o := j) (vs := [byteV c3]) (cs' := (l.set j c3).map byteV) (by simp [wkB,rtZ,sbZ,dC,ev,fiZ,pkZ,putAt,bnd,slD,gZ0,gZ1,Mem.cell,Mem.row,coZ,crZ]) (by simp [wkB,rtZ,sbZ,dC,ev,fiZ,pkZ,putAt,bnd,slD,gZ0,gZ1,Mem.cell,Mem.row,coZ,crZ,byteV,hc3]) (by simp; omega) rfl rfl (by
            rw [List.map_set,List.set_eq_take_append_cons_drop,if_pos (by simp; omega)]
            simp [putAt]) fun m3 h3 _ => ?_
          simp -implicitDefEqProofs (disch := first | assumption | omega) [wkB,rtZ,sbZ,dC,ev,fiZ,pkZ,putAt,bnd,slD,gZ0,gZ1,Mem.cell,Mem.row,coZ,crZ,t13,w1]
          exact hK (k - 1) _ _ (by omega) ⟨j + 1,l.set j c3,by omega,by simpa using hl,h3,by simp [t0],by simp [t6],by simp [t12],by simp⟩
        · have hb8 : ¬ (0 : Int) < (b.length : Int) := by omega
          simp -implicitDefEqProofs (disch := first | assumption | omega) [rc23_1,rc23_0,wkB,rtZ,sbZ,dC,ev,fiZ,pkZ,putAt,bnd,slD,gZ0,gZ1,Mem.cell,Mem.row,coZ,crZ,t0,t6,t12,t13,hj8,hsl,hb0,hb8,w1]
          exact hK (k - 1) _ _ (by omega) ⟨j + 1,l,by omega,hl,h2,by simp [t0],by simp [t6],by simp [t12],by simp⟩
      · have hj8 : ¬ (j : Int) < (n : Int) := by omega
        simp -implicitDefEqProofs (disch := first | assumption | omega) [rc23_1,rc23_2,wkB,rtZ,sbZ,dC,ev,fiZ,pkZ,putAt,bnd,slD,gZ0,gZ1,Mem.cell,Mem.row,coZ,crZ,t6,t12,t13,hj8]
        have := hq l x m' h2.toOld (by have := h2.nv 0 rfl; omega) (h2.lt 0 rfl) (h2.get 0 rfl) (by rw [hl,hn])
        rw [hl] at this
        exact this
  cases long with
  | true =>
    simp only [if_true] at hn
    subst hn
    simp -implicitDefEqProofs (disch := first | assumption | omega) [rc23,ro23,wkB,rtZ,sbZ,dC,ev,fiZ,pkZ,putAt,bnd,slD,gZ0,gZ1,Mem.cell,Mem.row,coZ,crZ]
    exact key _ (by simp [frA_at]) (by first | rfl | simp)
  | false =>
    simp only [Bool.false_eq_true,if_false] at hn
    subst hn
    simp -implicitDefEqProofs (disch := first | assumption | omega) [rc23,ro23,wkB,rtZ,sbZ,dC,ev,fiZ,pkZ,putAt,bnd,slD,gZ0,gZ1,Mem.cell,Mem.row,coZ,crZ]
    exact key _ (by simp [frA_at]) (by first | rfl | simp)
end Go.Proofs.YtccjlggpiliilaaGreatDoor.Ab

set_option linter.unusedVariables false
set_option linter.unusedSimpArgs false
namespace Go.Proofs.YtccjlggpiliilaaGreatDoor.As
open Go Go.RowKit Go.Extern.Stop Go.Stop Go.Extern
set_option maxRecDepth 100000
set_option maxHeartbeats 4000000
abbrev hd (T : TypeId) : Value := .pointer (some ⟨5,T,none⟩)
theorem rls (v x : Value) : ReflectliteValue.set #[v,x] = (do
    let (some (dst,a,fl),some (src,b,_)) := (← ReflectliteValue.parts v,← ReflectliteValue.parts x)
      | unsupported (.noEntry "extern/(internal/reflectlite.Value).Set.zeroValue")
    if fl / ReflectliteValue.flagAddr % 2 == 0 then unsupported (.noEntry "extern/(internal/reflectlite.Value).Set.unaddressable")
    let val ← loadVar src b
    if ← Rtype.directlyAssignable dst src then storeVar dst a val
    else if ← Rtype.implements dst src then
      if (← Rtype.kind src) == 20 then
        match val with
        | .nilIface => unsupported (.noEntry "extern/reflectlite: a nil value of one interface type handed on as a value of another")
        | _ => storeVar dst a val
      else storeVar dst a (.iface src val)
    else panicString ("reflectlite.Set: value of type " ++ (← Rtype.spelt src) ++ " is not assignable to type " ++ (← Rtype.spelt dst))
    pure (.tuple #[])) := rfl
theorem partsFa (a : Addr) (w : World) : (ReflectliteValue.parts (.agg #[hd 240,.pointer (some a),.int .u64 409])).run Tryz.prog w = .ok (some (240,a,409)) w := by kernel_rfl
theorem partsF (a : Addr) (w : World) : (ReflectliteValue.parts (.agg #[hd 240,.pointer (some a),.int .u64 153])).run Tryz.prog w = .ok (some (240,a,153)) w := by kernel_rfl
theorem directF (w : World) : (Rtype.directlyAssignable 240 240).run Tryz.prog w = .ok true w := by kernel_rfl
theorem sizeF (w : World) : (sizeOf 240).run Tryz.prog w = .ok 2 w := by kernel_rfl
theorem setF (t : Addr) (bb : Nat) (n a : Int) (W W' : World) (hb0 : W.cell? ⟨bb,0,none⟩ = some (.int .i64 n)) (hb1 : W.cell? ⟨bb,1,none⟩ = some (.int .i64 a))
    (hst : (storeCells t [.int .i64 n,.int .i64 a]).run Tryz.prog W = .ok () W') :
    (ReflectliteValue.set #[.agg #[hd 240,.pointer (some t),.int .u64 409],.agg #[hd 240,.pointer (some ⟨bb,0,none⟩),.int .u64 153]]).run Tryz.prog W = .ok (.tuple #[]) W' := by
  rw [rls]
  simp only [Sem.run_bind,partsFa,partsF,Result.andThen]
  simp [ReflectliteValue.flagAddr,loadVar,isAgg,underlying,Tryz.underlying240,Result.andThen,directF,storeVar,Value.cells,sizeF]
  have hl : (loadCells ⟨bb,0,none⟩ 2).run Tryz.prog W = .ok #[.int .i64 n,.int .i64 a] W := by
    simp [loadCells,loadCellsFrom,run_load,hb0,hb1,Addr.add,Result.andThen]
  rw [hl]
  simp [hst]
end Go.Proofs.YtccjlggpiliilaaGreatDoor.As
set_option linter.unusedVariables false
set_option linter.unusedSimpArgs false
namespace Go.Proofs.YtccjlggpiliilaaGreatDoor.As
open Go Go.RowKit Go.Extern.Stop Go.Stop Go.Extern
set_option maxRecDepth 100000
set_option maxHeartbeats 4000000
end Go.Proofs.YtccjlggpiliilaaGreatDoor.As

set_option linter.unusedVariables false
set_option linter.unusedSimpArgs false
namespace Go.Proofs.YtccjlggpiliilaaGreatDoor.As
open Go Go.RowKit Go.Extern.Stop Go.Stop Go.Extern
set_option maxRecDepth 100000
set_option maxHeartbeats 4000000
end Go.Proofs.YtccjlggpiliilaaGreatDoor.As
namespace Go.Proofs.YtccjlggpiliilaaGreatDoor.Ab
open Go Go.RowKit
set_option maxHeartbeats 4000000
set_option maxRecDepth 100000
def errnoV (n : Nat) : Value := if n = 0 then .nilIface else .iface 44 (.int .i64 (n : Int))
end Go.Proofs.YtccjlggpiliilaaGreatDoor.Ab

set_option linter.unusedVariables false
set_option linter.unusedSimpArgs false
namespace Go.Proofs.YtccjlggpiliilaaGreatDoor.Ab
open Go Go.RowKit
set_option maxHeartbeats 4000000
set_option maxRecDepth 100000
def roomOf (s w : Int) : Int := if w = 3 ∨ s < 0 ∨ 8192 < s then (if s < 0 then 0 else if 8192 < s then 8192 else s) else (s + 127) / 128 * 128
theorem c_Room {w0 : World} {m : Mem} {nm : ByteArray} {a s p w : Int} {Q : Value → Mem → Prop} (hq : ∀ m',Old m m' → Q (.int .i64 (roomOf s w)) m') :
    AbC Tryz.prog w0 25 [.agg ⟨[.string nm,.int .i64 a,.int .i64 s,.int .u32 p,.int .i64 w]⟩] m Q := by
  refine AbC_fn ok25 (by simp) ?_
  have ho : Old m (m.push (.own [.string nm,.int .i64 a,.int .i64 s,.int .u32 p,.int .i64 w] 56)) := (Old.refl m).push _
  have hq' := hq _ ho
  have cls : w = 3 ∨ (w ≠ 3 ∧ s < 0) ∨ (w ≠ 3 ∧ 0 ≤ s ∧ 8192 < s) ∨ (w ≠ 3 ∧ 0 ≤ s ∧ s ≤ 8192) := by omega
  rcases cls with rfl | ⟨h1,h2⟩ | ⟨h1,h2,h3⟩ | ⟨h1,h2,h3⟩
  · have e : roomOf s 3 = (if (if 8192 < s then 8192 else s) > 0 then (if 8192 < s then 8192 else s) else 0) := by
      simp only [roomOf,true_or,if_true]
      split <;> split <;> split <;> omega
    rw [e] at hq'
    simp -implicitDefEqProofs (disch := first | assumption | (simp only [wnA]; done) | (simp only [wnA]; omega) | omega) [rc25,ro25,wkA,rtZ,sbZ,dC,ev,fiZ,pkZ,putAt,bnd,slD,gZ0,gZ1,dR_sl,Mem.cell,Mem.row,wmA]
    simpa using hq'
  · have e : roomOf s w = 0 := by simp [roomOf,h1,h2]
    rw [e] at hq'
    have n1 : ¬ (8192 < s) := by omega
    have n2 : ¬ (0 < s) := by omega
    simp -implicitDefEqProofs (disch := first | assumption | (simp only [wnA]; done) | (simp only [wnA]; omega) | omega) [rc25,ro25,wkA,rtZ,sbZ,dC,ev,fiZ,pkZ,putAt,bnd,slD,gZ0,gZ1,dR_sl,Mem.cell,Mem.row,wmA,beqF h1,ltT h2,n1,n2]
    exact hq'
  · have e : roomOf s w = 8192 := by simp only [roomOf]; rw [if_pos (by omega),if_neg (by omega),if_pos h3]
    rw [e] at hq'
    simp -implicitDefEqProofs (disch := first | assumption | (simp only [wnA]; done) | (simp only [wnA]; omega) | omega) [rc25,ro25,wkA,rtZ,sbZ,dC,ev,fiZ,pkZ,putAt,bnd,slD,gZ0,gZ1,dR_sl,Mem.cell,Mem.row,wmA,beqF h1,ltF h2,gtT h3,h3]
    exact hq'
  · have e : roomOf s w = (s + 127) / 128 * 128 := by simp only [roomOf]; rw [if_neg (by omega)]
    rw [e] at hq'
    have e2 : (s + 128 - 1).tdiv 128 = (s + 127) / 128 := by rw [Int.tdiv_eq_ediv_of_nonneg (by omega)]; congr 1; omega
    simp -implicitDefEqProofs (disch := first | assumption | (simp only [wnA]; done) | (simp only [wnA]; omega) | omega) [rc25,rc25_0,ro25,wkA,rtZ,sbZ,dC,ev,fiZ,pkZ,putAt,bnd,slD,gZ0,gZ1,dR_sl,Mem.cell,Mem.row,wmA,beqF h1,ltF h2,gtF h3,w64,dBin_quo,e2]
    exact hq'
structure En where
  nm : ByteArray
  a : Int
  s : Int
  p : Int
  w : Int
def En.cells (e : En) : List Value := [.string e.nm,.int .i64 e.a,.int .i64 e.s,.int .u32 e.p,.int .i64 e.w]
theorem enl (e : En) : e.cells.length = 5 := rfl
def En.ok (e : En) : Prop := e.nm.size ≤ 1048576 ∧ (-9223372036854775808 ≤ e.a ∧ e.a ≤ 9223372036854775807) ∧ (-9223372036854775808 ≤ e.s ∧ e.s ≤ 9223372036854775807) ∧ (0 ≤ e.p ∧ e.p ≤ 4294967295) ∧ (-9223372036854775808 ≤ e.w ∧ e.w ≤ 9223372036854775807)
theorem SK_appP {P : Program} {w0 : World} {ts : Fr} {m base : Mem} {R : Value → Mem → Prop} {e sz bytes n k : Nat} {ob : Option Nat} {cs ys : List Value} {x y : Operand} (hb : Old base m) (h : SlO m e sz ob cs n) (hob : ∀ b,ob = some b → base.next ≤ b)
    (hx : ev ts x = slV ob n sz) (hy : elemsV m sz (ev ts y) = some ys) (hk : lenV (ev ts y) = k) (hpos : 0 < k) (h1 : ys.all oneC = true) (h2 : (n + k) * bytes ≤ 140737488355328) (h3 : n + k ≤ maxLen) (hl : ys.length = k * sz)
    (hR : ∀ ob' m',Old base m' → SlO m' e sz ob' (cs ++ ys) (n + k) → (∀ b,ob' = some b → base.next ≤ b) → R (slV ob' (n + k) sz) m') : SK P w0 (.e (.app e sz bytes x y)) ts m R := by
  refine SK_ap h hx hy hk hpos h1 h2 h3 hl (hR _ _ ((hb.kill hob).push _) (SlO.new ?_) ?_)
  · rw [List.length_append,h.1,hl,Nat.add_mul]
  · intro b hb'; cases hb'; exact hb.1
def nameCs : List UInt8 := [97,98,99,88,89,90,48,49,46,45,95]
def nch (b : UInt8) : UInt8 := nameCs.getD (b.toNat % 11) 0
def nameL (ns : List UInt8) : List UInt8 := 102 :: (ns.take 8).map nch
theorem ch_sub : ∀ k : Fin 11,(ByteArray.mk #[97,98,99,88,89,90,48,49,46,45,95]).extract k.val (k.val + 1) = ⟨⟨[nameCs.getD k.val 0]⟩⟩ := by decide +kernel
theorem ba_app (a b : List UInt8) : (ByteArray.mk ⟨a⟩) ++ (ByteArray.mk ⟨b⟩) = ⟨⟨a ++ b⟩⟩ := by
  apply ByteArray.ext
  simp
theorem c_nums {w0 : World} {m : Mem} {v : Value} {ns : List UInt8} {Q : Value → Mem → Prop} (hv : SlR m 1 v (ns.map byteV) ns.length) (hl : ns.length ≤ 9223372036854775807) (hq : Q (.string ⟨⟨nameL ns⟩⟩) m) :
    AbC Tryz.prog w0 68 [v] m Q := by
  refine AbC_fn ok68 (by simp) ?_
  simp -implicitDefEqProofs (disch := first | assumption | (simp only [wnA]; done) | (simp only [wnA]; omega) | omega) [rc68,ro68,wkA,rtZ,sbZ,dC,ev,fiZ,pkZ,putAt,bnd,slD,gZ0,gZ1,dR_sl,Mem.cell,Mem.row,wmA,hv.slen]
  refine LoopW_of (fun k ts m' => ∃ j,j + k = ns.length ∧ m' = m ∧ ts 3 = .string ⟨⟨nameL (ns.take j)⟩⟩ ∧ ts 6 = v ∧ ts 7 = .int .i64 (ns.length : Nat) ∧ ts 8 = .int .i64 (j : Nat)) ns.length ?_ ?_
  · exact ⟨0,by omega,rfl,by simp [nameL],by simp [frA_at],by simp,by simp⟩
  · rintro k ts m1 K ⟨j,hj,rfl,t3,t6,t7,t8⟩ hK
    simp -implicitDefEqProofs (disch := first | assumption | (simp only [wnA]; done) | (simp only [wnA]; omega) | omega) [rc68_1,wkA,rtZ,sbZ,dC,ev,fiZ,pkZ,putAt,bnd,slD,gZ0,gZ1,dR_sl,Mem.cell,Mem.row,wmA,t7,t8]
    by_cases hjl : j < ns.length
    · obtain ⟨bi,bo,L,hvv,hL,hLl,-,hLc⟩ := hv.at hjl
      have hc := hLc 0 (by omega)
      simp only [Nat.mul_one,Nat.add_zero,List.getElem?_map,List.getElem?_eq_getElem hjl,Option.map_some] at hc
      obtain ⟨x,hx⟩ : ∃ x,ns[j] = x := ⟨_,rfl⟩
      rw [hx] at hc
      rw [hvv] at t6
      obtain ⟨hlt',hc'⟩ := List.getElem?_eq_some_iff.1 hc
      have hjw : IntKind.i64.wrap ((j : Int) + 1) = ((j + 1 : Nat) : Int) := by rw [w64 (by omega)]; omega
      have htk : ns.take (j + 1) = ns.take j ++ [x] := by rw [List.take_succ_eq_append_getElem hjl,hx]
      by_cases h8 : j < 8
      · have h8' : (j : Int) < 8 := by omega
        have hm : ((x.toNat : Int)).tmod 11 = ((x.toNat % 11 : Nat) : Int) := by rw [Int.tmod_eq_emod_of_nonneg (by omega)]; omega
        have hm11 : x.toNat % 11 < 11 := Nat.mod_lt _ (by omega)
        have hw1 : IntKind.u8.wrap (((x.toNat % 11 : Nat) : Int) + 1) = ((x.toNat % 11 + 1 : Nat) : Int) := by rw [IntKind.wrap_u8]; omega
        have hsub := ch_sub ⟨x.toNat % 11,hm11⟩
        simp only at hsub
        have hnc : nch x = nameCs.getD (x.toNat % 11) 0 := rfl
        have hr : dBin .rem (.int .u8 (x.toNat : Int)) (.int .u8 11) = some (.int .u8 ((x.toNat % 11 : Nat) : Int)) := by rw [dBin_rem (by omega),hm]
        have hnx : nameL (ns.take (j + 1)) = nameL (ns.take j) ++ [nch x] := by
          unfold nameL
          rw [List.take_take,List.take_take,show min 8 (j + 1) = j + 1 from by omega,show min 8 j = j from by omega,htk]
          simp
        rw [hnc] at hnx
        have hlen : (nameL (ns.take j)).length + 1 ≤ 100 := by unfold nameL; simp; omega
        generalize nameL (ns.take j) = S at *
        generalize hMM : x.toNat % 11 = M at *
        have hm0 : (0 : Int) ≤ (M : Int) ∧ (M : Int) ≤ ((M + 1 : Nat) : Int) ∧ ((M + 1 : Nat) : Int) ≤ 11 := by omega
        have hsz : (ByteArray.mk #[97,98,99,88,89,90,48,49,46,45,95]).size = 11 := rfl
        have p1 : (0 : Int) ≤ (M : Int) + 1 ∧ (M : Int) + 1 ≤ 11 := by omega
        have p3 : (M : Int) ≤ (M : Int) + 1 := by omega
        have p2 : dBin .add (.string ⟨⟨S⟩⟩) (.string ⟨⟨[nameCs.getD M 0]⟩⟩) = some (.string ⟨⟨S ++ [nameCs.getD M 0]⟩⟩) := by
          rw [dBin_sadd (by show S.length + 1 ≤ _; omega),ba_app]
        generalize nameCs.getD M 0 = c at *
        simp -implicitDefEqProofs (disch := first | assumption | (simp only [wnA]; done) | (simp only [wnA]; omega) | omega) [hjl,rc68_0,wkA,rtZ,sbZ,dC,ev,fiZ,pkZ,putAt,bnd,slD,gZ0,gZ1,dR_sl,Mem.cell,Mem.row,wmA,t3,t6,t7,t8,sidx_at,hL,hc,hc',byteV,h8',hr,hw1,hsz,p1,hsub,p2,p3,hjw]
        exact hK (k - 1) _ _ (by omega) ⟨j + 1,by omega,rfl,by rw [hnx]; simp,by simp [t6,hvv],by simp [t7],by simp [hjw]⟩
      · have h8' : ¬ (j : Int) < 8 := by omega
        have hnx : nameL (ns.take (j + 1)) = nameL (ns.take j) := by
          unfold nameL
          rw [List.take_take,List.take_take,show min 8 (j + 1) = 8 from by omega,show min 8 j = 8 from by omega]
        simp -implicitDefEqProofs (disch := first | assumption | (simp only [wnA]; done) | (simp only [wnA]; omega) | omega) [hjl,rc68_0,wkA,rtZ,sbZ,dC,ev,fiZ,pkZ,putAt,bnd,slD,gZ0,gZ1,dR_sl,Mem.cell,Mem.row,wmA,t3,t6,t7,t8,sidx_at,hL,hc,hc',byteV,h8']
        exact hK (k - 1) _ _ (by omega) ⟨j + 1,by omega,rfl,by rw [hnx]; simp [t3],by simp [t6,hvv],by simp [t7],by simp [hjw]⟩
    · have hjj : j = ns.length := by omega
      subst hjj
      rw [List.take_length] at t3
      simp -implicitDefEqProofs (disch := first | assumption | (simp only [wnA]; done) | (simp only [wnA]; omega) | omega) [hjl,rc68_2,wkA,rtZ,sbZ,dC,ev,fiZ,pkZ,putAt,bnd,slD,gZ0,gZ1,dR_sl,Mem.cell,Mem.row,wmA,t3]
      exact hq
structure Ac where
  ns : List UInt8
  v : Value
  a : Int
  s : Int
  p : Int
  w : Int
instance : Inhabited Ac := ⟨⟨[],.slice none 0 0,0,0,0,0⟩⟩
def Ac.cells (x : Ac) : List Value := [x.v,.int .u16 x.a,.int .u16 x.s,.int .u32 x.p,.int .u8 x.w]
def Ac.rng (x : Ac) : Prop := (0 ≤ x.a ∧ x.a ≤ 65535) ∧ (0 ≤ x.s ∧ x.s ≤ 65535) ∧ (0 ≤ x.p ∧ x.p ≤ 4294967295) ∧ (0 ≤ x.w ∧ x.w ≤ 255)
def lastB (k : Nat) : UInt8 := UInt8.ofNat (97 + k)
def entA (x : Ac) (k : Nat) : En := ⟨⟨⟨nameL x.ns ++ [lastB k]⟩⟩,if x.a % 8 = 7 then x.a else (k : Int) * 2048,1 + x.s % 600,x.p,x.w % 4⟩
theorem enc_last : ∀ k : Fin 8,Utf8.encode ((97 : Int) + (k.val : Int)) = ⟨⟨[lastB k.val]⟩⟩ := by decide +kernel
theorem w_EA3 {w0 : World} {fr : Fr} {m : Mem} {i2 i4 i5 k : Nat} {x : Ac} {Q : Value → Mem → Prop} (e2 : fr 2 = .pointer (some ⟨i2,0,none⟩)) (e4 : fr 4 = .pointer (some ⟨i4,0,none⟩)) (e5 : fr 5 = .pointer (some ⟨i5,0,none⟩))
    (g2 : m.get i2 = .own x.cells 64) (g4 : m.get i4 = .own [.string ⟨#[]⟩,.int .i64 0,.int .i64 0,.int .u32 0,.int .i64 0] 56) (g5 : m.get i5 = .own [.string ⟨⟨nameL x.ns ++ [lastB k]⟩⟩,.int .i64 ((k : Int) * 2048),.int .i64 (1 + x.s % 600),.int .u32 x.p,.int .i64 (x.w % 4)] 56) (hne : i4 ≠ i5) (hk : k < 8) (hr : x.rng)
    (hq : ∀ m',m'.next = m.next → (∀ i,i ≠ i4 → i ≠ i5 → m'.get i = m.get i) → Q (.agg ⟨(entA x k).cells⟩) m') : AbW Tryz.prog w0 rc48_3 (bodyA ro48 Q) fr m := by
  obtain ⟨ns,v,xa,xs,xp,xw⟩ := x
  obtain ⟨h1,h2,h3,h4⟩ := hr
  simp only at h1 h2 h3 h4 g5
  simp only [Ac.cells] at g2
  have n24 : i2 ≠ i4 := own_ne g2 g4 (by decide)
  have n25 : i2 ≠ i5 := own_ne g2 g5 (by decide)
  have hr3 : dBin .rem (.int .u16 xa) (.int .u16 8) = some (.int .u16 (xa % 8)) := by rw [dBin_rem (by omega),Int.tmod_eq_emod_of_nonneg h1.1]
  have w1 : IntKind.i64.wrap xa = xa := w64 (by omega)
  simp -implicitDefEqProofs (disch := first | assumption | (simp only [wnA]; done) | (simp only [wnA]; omega) | omega) [rc48_3,ro48,wkA,rtZ,sbZ,dC,ev,fiZ,pkZ,putAt,bnd,slD,gZ0,gZ1,dR_sl,Mem.cell,Mem.row,wmA,e2,g2,hr3]
  have last : ∀ (fr : Fr) (M : Mem) (A : Int),fr 4 = .pointer (some ⟨i4,0,none⟩) → fr 5 = .pointer (some ⟨i5,0,none⟩) → M.next = m.next → (∀ i,i ≠ i4 → i ≠ i5 → M.get i = m.get i) → M.get i4 = .own [.string ⟨#[]⟩,.int .i64 0,.int .i64 0,.int .u32 0,.int .i64 0] 56 →
      M.get i5 = .own [.string ⟨⟨nameL ns ++ [lastB k]⟩⟩,.int .i64 A,.int .i64 (1 + xs % 600),.int .u32 xp,.int .i64 (xw % 4)] 56 → A = (if xa % 8 = 7 then xa else (k : Int) * 2048) → AbW Tryz.prog w0 rc48_2 (bodyA ro48 Q) fr M := by
    intro fr M A e4 e5 hn ho g4 g5 hA
    simp -implicitDefEqProofs (disch := first | assumption | (simp only [wnA]; done) | (simp only [wnA]; omega) | omega) [rc48_2,ro48,wkA,rtZ,sbZ,dC,ev,fiZ,pkZ,putAt,bnd,slD,gZ0,gZ1,dR_sl,Mem.cell,Mem.row,wmA,e4,e5,g5]
    refine SK_st (i := i4) (o := 0) (by simp [wkA,rtZ,sbZ,dC,ev,fiZ,pkZ,putAt,bnd,slD,gZ0,gZ1,dR_sl,e4]) (e := 56) g4 (by simp) (by simp [wkA,rtZ,sbZ,dC,ev,fiZ,pkZ,putAt,bnd,slD,gZ0,gZ1,dR_sl]) (by simp [wkA,rtZ,sbZ,dC,ev,fiZ,pkZ,putAt,bnd,slD,gZ0,gZ1,dR_sl,oneC]) ?_
    simp -implicitDefEqProofs (disch := first | assumption | (simp only [wnA]; done) | (simp only [wnA]; omega) | omega) [wkA,rtZ,sbZ,dC,ev,fiZ,pkZ,putAt,bnd,slD,gZ0,gZ1,dR_sl,Mem.cell,Mem.row,wmA,e4]
    subst hA
    refine hq _ hn fun i h1 h2 => ?_
    rw [Mem.set_other _ _ h1]
    exact ho i h1 h2
  by_cases h7 : xa % 8 = 7
  · simp -implicitDefEqProofs (disch := first | assumption | (simp only [wnA]; done) | (simp only [wnA]; omega) | omega) [rc48_3,ro48,wkA,rtZ,sbZ,dC,ev,fiZ,pkZ,putAt,bnd,slD,gZ0,gZ1,dR_sl,Mem.cell,Mem.row,wmA,e2,g2,h7,e5]
    refine SK_st (i := i5) (o := 1) (by simp [wkA,rtZ,sbZ,dC,ev,fiZ,pkZ,putAt,bnd,slD,gZ0,gZ1,dR_sl,e5]) (e := 56) g5 (by simp) (by simp [wkA,rtZ,sbZ,dC,ev,fiZ,pkZ,putAt,bnd,slD,gZ0,gZ1,dR_sl]) (by simp [wkA,rtZ,sbZ,dC,ev,fiZ,pkZ,putAt,bnd,slD,gZ0,gZ1,dR_sl,oneC]) ?_
    simp -implicitDefEqProofs (disch := first | assumption | (simp only [wnA]; done) | (simp only [wnA]; omega) | omega) [wkA,rtZ,sbZ,dC,ev,fiZ,pkZ,putAt,bnd,slD,gZ0,gZ1,dR_sl,Mem.cell,Mem.row,wmA]
    refine last _ _ xa (by simp [e4]) (by simp [e5]) rfl (fun i h1 h2 => Mem.set_other _ _ h2) ?_ ?_ (by rw [if_pos h7])
    · rw [Mem.set_other _ _ hne]; exact g4
    · rw [Mem.set_same]; simp [w1]
  · simp -implicitDefEqProofs (disch := first | assumption | (simp only [wnA]; done) | (simp only [wnA]; omega) | omega) [wkA,rtZ,sbZ,dC,ev,fiZ,pkZ,putAt,bnd,slD,gZ0,gZ1,dR_sl,Mem.cell,Mem.row,wmA,beqF h7]
    refine last _ _ ((k : Int) * 2048) (by simp [e4]) (by simp [e5]) rfl (fun i h1 h2 => rfl) g4 g5 (by rw [if_neg h7])
theorem c_EntryA {w0 : World} {m : Mem} {x : Ac} {k : Nat} {Q : Value → Mem → Prop} (hv : SlR m 1 x.v (x.ns.map byteV) x.ns.length) (hvb : ∀ b,blk x.v = some b → b < m.next) (hk : k < 8) (hr : x.rng) (hn : x.ns.length ≤ 9223372036854775807)
    (hq : ∀ m',Old m m' → Q (.agg ⟨(entA x k).cells⟩) m') : AbC Tryz.prog w0 48 [.agg ⟨x.cells⟩,.int .i64 (k : Int)] m Q := by
  refine AbC_fn ok48 (by simp) ?_
  obtain ⟨ns,v,xa,xs,xp,xw⟩ := x
  obtain ⟨h1,h2,h3,h4⟩ := hr
  simp only at hv hvb hn h1 h2 h3 h4
  have en := enc_last ⟨k,hk⟩
  simp only at en
  have w1 : IntKind.i64.wrap (97 + (k : Int)) = 97 + (k : Int) := w64 (by omega)
  have w2 : IntKind.i32.wrap (97 + (k : Int)) = 97 + (k : Int) := by simp [IntKind.wrap,IntKind.signed,IntKind.bits]; omega
  have w3 : IntKind.i64.wrap ((k : Int) * 2048) = (k : Int) * 2048 := w64 (by omega)
  have t1 : xs.tmod 600 = xs % 600 := Int.tmod_eq_emod_of_nonneg h2.1
  have t2 : xw.tmod 4 = xw % 4 := Int.tmod_eq_emod_of_nonneg h4.1
  have t3 : xa.tmod 8 = xa % 8 := Int.tmod_eq_emod_of_nonneg h1.1
  have w4 : IntKind.i64.wrap xs = xs := w64 (by omega)
  have w5 : IntKind.i64.wrap (1 + xs % 600) = 1 + xs % 600 := w64 (by omega)
  have w6 : IntKind.i64.wrap (xw % 4) = xw % 4 := w64 (by omega)
  have hr1 : dBin .rem (.int .i64 xs) (.int .i64 600) = some (.int .i64 (xs % 600)) := by rw [dBin_rem (by omega),t1]
  have hr2 : dBin .rem (.int .u8 xw) (.int .u8 4) = some (.int .u8 (xw % 4)) := by rw [dBin_rem (by omega),t2]
  have hnl : (nameL ns).length + 1 ≤ 100 := by unfold nameL; simp; omega
  have hadd : dBin .add (.string ⟨⟨nameL ns⟩⟩) (.string ⟨⟨[lastB k]⟩⟩) = some (.string ⟨⟨nameL ns ++ [lastB k]⟩⟩) := by
    rw [dBin_sadd (by show (nameL ns).length + 1 ≤ _; omega),ba_app]
  simp -implicitDefEqProofs (disch := first | assumption | (simp only [wnA]; done) | (simp only [wnA]; omega) | omega) [rc48,ro48,wkA,rtZ,sbZ,dC,ev,fiZ,pkZ,putAt,bnd,slD,gZ0,gZ1,dR_sl,Mem.cell,Mem.row,wmA,Ac.cells,hr1,hr2,w1,w2,w3,w4,w5,w6,en]
  refine AbW_sem_of ?_
  simp -implicitDefEqProofs (disch := first | assumption | (simp only [wnA]; done) | (simp only [wnA]; omega) | omega) [wkA,rtZ,sbZ,dC,ev,fiZ,pkZ,putAt,bnd,slD,gZ0,gZ1,dR_sl,Mem.cell,Mem.row,wmA,Ac.cells,hr1,hr2,w1,w2,w3,w4,w5,w6,en]
  refine ⟨?_,?_⟩
  · simp -implicitDefEqProofs (disch := first | assumption | (simp only [wnA]; done) | (simp only [wnA]; omega) | omega) [rc48_0,wkA,rtZ,sbZ,dC,ev,fiZ,pkZ,putAt,bnd,slD,gZ0,gZ1,dR_sl,Mem.cell,Mem.row,wmA]
    refine c_nums ((hv.keep fun b hb => Mem.push_old _ _ (hvb b hb)).keep fun b hb => Mem.push_old _ _ (Nat.lt_succ_of_lt (hvb b hb))) hn ?_
    simp -implicitDefEqProofs (disch := first | assumption | (simp only [wnA]; done) | (simp only [wnA]; omega) | omega) [wkA,rtZ,sbZ,dC,ev,fiZ,pkZ,putAt,bnd,slD,gZ0,gZ1,dR_sl,Mem.cell,Mem.row,wmA,hadd]
    refine SK_st (i := m.next + 1 + 1) (o := 0) (by simp [wkA,rtZ,sbZ,dC,ev,fiZ,pkZ,putAt,bnd,slD,gZ0,gZ1,dR_sl]) (e := 56) (cs := [.string ⟨#[]⟩,.int .i64 0,.int .i64 0,.int .u32 0,.int .i64 0]) (by simp -implicitDefEqProofs (disch := first | assumption | (simp only [wnA]; done) | (simp only [wnA]; omega) | omega) [Mem.cell,Mem.row,wmA]) (by simp) (by simp [wkA,rtZ,sbZ,dC,ev,fiZ,pkZ,putAt,bnd,slD,gZ0,gZ1,dR_sl]) (by simp [wkA,rtZ,sbZ,dC,ev,fiZ,pkZ,putAt,bnd,slD,gZ0,gZ1,dR_sl,oneC]) ?_
    simp -implicitDefEqProofs (disch := first | assumption | (simp only [wnA]; done) | (simp only [wnA]; omega) | omega) [wkA,rtZ,sbZ,dC,ev,fiZ,pkZ,putAt,bnd,slD,gZ0,gZ1,dR_sl,Mem.cell,Mem.row,wmA]
    refine w_EA3 (i2 := m.next) (i4 := m.next + 1) (i5 := m.next + 1 + 1) (x := ⟨ns,v,xa,xs,xp,xw⟩) (k := k) (by simp) (by simp) (by simp) (by simp -implicitDefEqProofs (disch := first | assumption | (simp only [wnA]; done) | (simp only [wnA]; omega) | omega) [Mem.cell,Mem.row,wmA,Ac.cells]) (by simp -implicitDefEqProofs (disch := first | assumption | (simp only [wnA]; done) | (simp only [wnA]; omega) | omega) [Mem.cell,Mem.row,wmA]) (by simp -implicitDefEqProofs (disch := first | assumption | (simp only [wnA]; done) | (simp only [wnA]; omega) | omega) [Mem.cell,Mem.row,wmA]) (by omega) hk ⟨h1,h2,h3,h4⟩ fun m' hn' ho => hq m' ⟨by rw [hn']; simp; omega,fun i hi => ?_⟩
    rw [ho i (by omega) (by omega),Mem.set_other _ _ (by omega),Mem.push_old _ _ (by simp; omega),Mem.push_old _ _ (by simp; omega),Mem.push_old _ _ hi]
  · simp -implicitDefEqProofs (disch := first | assumption | (simp only [wnA]; done) | (simp only [wnA]; omega) | omega) [rc48_1,wkA,rtZ,sbZ,dC,ev,fiZ,pkZ,putAt,bnd,slD,gZ0,gZ1,dR_sl,Mem.cell,Mem.row,wmA]
    refine c_nums (((hv.keep fun b hb => Mem.push_old _ _ (hvb b hb)).keep fun b hb => Mem.push_old _ _ (Nat.lt_succ_of_lt (hvb b hb))).keep fun b hb => Mem.push_old _ _ (Nat.lt_succ_of_lt (Nat.lt_succ_of_lt (hvb b hb)))) hn ?_
    simp -implicitDefEqProofs (disch := first | assumption | (simp only [wnA]; done) | (simp only [wnA]; omega) | omega) [wkA,rtZ,sbZ,dC,ev,fiZ,pkZ,putAt,bnd,slD,gZ0,gZ1,dR_sl,Mem.cell,Mem.row,wmA,hadd]
    refine SK_st (i := m.next + 1 + 1) (o := 0) (by simp [wkA,rtZ,sbZ,dC,ev,fiZ,pkZ,putAt,bnd,slD,gZ0,gZ1,dR_sl]) (e := 56) (cs := [.string ⟨#[]⟩,.int .i64 0,.int .i64 0,.int .u32 0,.int .i64 0]) (by simp -implicitDefEqProofs (disch := first | assumption | (simp only [wnA]; done) | (simp only [wnA]; omega) | omega) [Mem.cell,Mem.row,wmA]) (by simp) (by simp [wkA,rtZ,sbZ,dC,ev,fiZ,pkZ,putAt,bnd,slD,gZ0,gZ1,dR_sl]) (by simp [wkA,rtZ,sbZ,dC,ev,fiZ,pkZ,putAt,bnd,slD,gZ0,gZ1,dR_sl,oneC]) ?_
    simp -implicitDefEqProofs (disch := first | assumption | (simp only [wnA]; done) | (simp only [wnA]; omega) | omega) [wkA,rtZ,sbZ,dC,ev,fiZ,pkZ,putAt,bnd,slD,gZ0,gZ1,dR_sl,Mem.cell,Mem.row,wmA]
    refine w_EA3 (i2 := m.next) (i4 := m.next + 1) (i5 := m.next + 1 + 1) (x := ⟨ns,v,xa,xs,xp,xw⟩) (k := k) (by simp) (by simp) (by simp) (by simp -implicitDefEqProofs (disch := first | assumption | (simp only [wnA]; done) | (simp only [wnA]; omega) | omega) [Mem.cell,Mem.row,wmA,Ac.cells]) (by simp -implicitDefEqProofs (disch := first | assumption | (simp only [wnA]; done) | (simp only [wnA]; omega) | omega) [Mem.cell,Mem.row,wmA]) (by simp -implicitDefEqProofs (disch := first | assumption | (simp only [wnA]; done) | (simp only [wnA]; omega) | omega) [Mem.cell,Mem.row,wmA]) (by omega) hk ⟨h1,h2,h3,h4⟩ fun m' hn' ho => hq m' ⟨by rw [hn']; simp; omega,fun i hi => ?_⟩
    rw [ho i (by omega) (by omega),Mem.set_other _ _ (by omega),Mem.push_old _ _ (by simp; omega),Mem.push_old _ _ (by simp; omega),Mem.push_old _ _ hi]
theorem acl (x : Ac) : x.cells.length = 5 := rfl
def AcOk (m : Mem) (x : Ac) : Prop := x.rng ∧ SlR m 1 x.v (x.ns.map byteV) x.ns.length ∧ (∀ b,blk x.v = some b → b < m.next) ∧ x.ns.length ≤ maxLen
theorem AcOk.old {m m' : Mem} {x : Ac} (h : AcOk m x) (o : Old m m') : AcOk m' x :=
  ⟨h.1,h.2.1.keep fun b hb => o.2 b (h.2.2.1 b hb),fun b hb => Nat.lt_of_lt_of_le (h.2.2.1 b hb) o.1,h.2.2.2⟩
def entsJ (xs : List Ac) (j : Nat) : List En := (List.range (min 8 j)).map fun k => entA (xs.getD k default) k
def entsA (xs : List Ac) : List En := entsJ xs xs.length
theorem entsJ_len (xs : List Ac) (j : Nat) : (entsJ xs j).length = min 8 j := by simp [entsJ]
theorem entsJ_lt {xs : List Ac} {j : Nat} (h : j < 8) (hj : j < xs.length) : entsJ xs (j + 1) = entsJ xs j ++ [entA xs[j] j] := by
  unfold entsJ
  rw [show min 8 (j + 1) = j + 1 from by omega,show min 8 j = j from by omega,List.range_succ,List.map_append]
  simp [List.getD,List.getElem?_eq_getElem hj]
theorem entsJ_ge {xs : List Ac} {j : Nat} (h : ¬ j < 8) : entsJ xs (j + 1) = entsJ xs j := by
  unfold entsJ
  rw [show min 8 (j + 1) = 8 from by omega,show min 8 j = 8 from by omega]
theorem c_Entries {w0 : World} {m : Mem} {v : Value} {xs : List Ac} {Q : Value → Mem → Prop} (hv : SlR m 5 v (xs.flatMap Ac.cells) xs.length) (hb : ∀ b,blk v = some b → b < m.next) (hx : ∀ x ∈ xs,AcOk m x) (hn : xs.length ≤ 9223372036854775807)
    (hq : ∀ m' ob,Old m m' → SlO m' 56 5 ob ((entsA xs).flatMap En.cells) (entsA xs).length → (∀ i,ob = some i → m.next ≤ i) → Q (slV ob (entsA xs).length 5) m') : AbC Tryz.prog w0 22 [v] m Q := by
  refine AbC_fn ok22 (by simp) ?_
  simp -implicitDefEqProofs (disch := first | assumption | (simp only [wnA]; done) | (simp only [wnA]; omega) | omega) [rc22,ro22,wkA,rtZ,sbZ,dC,ev,fiZ,pkZ,putAt,bnd,slD,gZ0,gZ1,dR_sl,Mem.cell,Mem.row,wmA,hv.slen]
  refine LoopW_of (fun k ts m' => ∃ j ob,j + k = xs.length ∧ Old m m' ∧ ts 3 = slV ob (entsJ xs j).length 5 ∧ ts 6 = v ∧ ts 7 = .int .i64 (xs.length : Nat) ∧ ts 8 = .int .i64 (j : Nat) ∧ SlO m' 56 5 ob ((entsJ xs j).flatMap En.cells) (entsJ xs j).length ∧ (∀ i,ob = some i → m.next ≤ i)) xs.length ?_ ?_
  · exact ⟨0,none,by omega,Old.refl m,by simp [entsJ]; rfl,by simp [frA_at],by simp,by simp,⟨rfl,rfl⟩,(fun i h => by cases h)⟩
  · rintro k ts m1 K ⟨j,ob,hj,o1,t3,t6,t7,t8,so,hob⟩ hK
    simp -implicitDefEqProofs (disch := first | assumption | (simp only [wnA]; done) | (simp only [wnA]; omega) | omega) [rc22_1,wkA,rtZ,sbZ,dC,ev,fiZ,pkZ,putAt,bnd,slD,gZ0,gZ1,dR_sl,Mem.cell,Mem.row,wmA,t7,t8]
    by_cases hjl : j < xs.length
    · have ijl : (j : Int) < (xs.length : Int) := by omega
      have hjw : IntKind.i64.wrap ((j : Int) + 1) = ((j + 1 : Nat) : Int) := by rw [w64 (by omega)]; omega
      obtain ⟨bi,bo,L,hvv,hL,hLl,hLt,-⟩ := (hv.keep fun b h => o1.2 b (hb b h)).at hjl
      rw [flat_at acl xs (List.getElem?_eq_getElem hjl)] at hLt
      have hxo := (hx xs[j] (List.getElem_mem hjl)).old o1
      have hJ := fun h => entsJ_lt (xs := xs) (j := j) h hjl
      generalize xs[j] = x at *
      have hLt' : (L.drop (bo + j * 5)).take 5 = [x.v,.int .u16 x.a,.int .u16 x.s,.int .u32 x.p,.int .u8 x.w] := hLt
      have hle : bo + j * 5 + 5 ≤ L.length := by omega
      have hone := hxo.2.1.one.1
      rw [hvv] at t6
      simp -implicitDefEqProofs (disch := first | assumption | (simp only [wnA]; done) | (simp only [wnA]; omega) | omega) [hjl,ijl,rc22_0,wkA,rtZ,sbZ,dC,ev,fiZ,pkZ,putAt,bnd,slD,gZ0,gZ1,dR_sl,Mem.cell,Mem.row,wmA,t3,t6,t7,t8,sidx_at,hL,hLt',hle]
      refine SK_st (i := m1.next) (o := 0) (by simp [wkA,rtZ,sbZ,dC,ev,fiZ,pkZ,putAt,bnd,slD,gZ0,gZ1,dR_sl]) (e := 64) (by simp -implicitDefEqProofs (disch := first | assumption | (simp only [wnA]; done) | (simp only [wnA]; omega) | omega) [Mem.cell,Mem.row,wmA]; rfl) (by simp) (by simp [wkA,rtZ,sbZ,dC,ev,fiZ,pkZ,putAt,bnd,slD,gZ0,gZ1,dR_sl]) (by simp [wkA,rtZ,sbZ,dC,ev,fiZ,pkZ,putAt,bnd,slD,gZ0,gZ1,dR_sl]; exact ⟨hone,rfl,rfl,rfl,rfl⟩) ?_
      obtain ⟨M,hM⟩ : ∃ M,(m1.push (.own [.slice none 0 0,.int .u16 0,.int .u16 0,.int .u32 0,.int .u8 0] 64)).set m1.next (.own [x.v,.int .u16 x.a,.int .u16 x.s,.int .u32 x.p,.int .u8 x.w] 64) = M := ⟨_,rfl⟩
      have oM : Old m1 M := by subst hM; exact ((Old.refl m1).push _).set (Nat.le_refl _) _
      have gM : M.get m1.next = .own [x.v,.int .u16 x.a,.int .u16 x.s,.int .u32 x.p,.int .u8 x.w] 64 := by subst hM; rw [Mem.set_same]
      simp -implicitDefEqProofs (disch := first | assumption | (simp only [wnA]; done) | (simp only [wnA]; omega) | omega) [wkA,rtZ,sbZ,dC,ev,fiZ,pkZ,putAt,bnd,slD,gZ0,gZ1,dR_sl,Mem.cell,Mem.row,wmA,hM]
      have soM := so.keep oM.1 fun b hb => by subst hb; exact oM.2 b so.lt
      by_cases h8 : j < 8
      · have i8 : (j : Int) < 8 := by omega
        have hJ := hJ h8
        have hlen := entsJ_len xs j
        simp -implicitDefEqProofs (disch := first | assumption | (simp only [wnA]; done) | (simp only [wnA]; omega) | omega) [wkA,rtZ,sbZ,dC,ev,fiZ,pkZ,putAt,bnd,slD,gZ0,gZ1,dR_sl,Mem.cell,Mem.row,wmA,i8,gM,t3]
        refine c_EntryA (x := x) (k := j) (hxo.2.1.keep fun b hb => oM.2 b (hxo.2.2.1 b hb)) (fun b hb => Nat.lt_of_lt_of_le (hxo.2.2.1 b hb) oM.1) h8 hxo.1 (Nat.le_trans hxo.2.2.2 (by decide)) fun m3 o3 => ?_
        obtain ⟨e,he⟩ : ∃ e,entA x j = e := ⟨_,rfl⟩
        rw [he] at hJ ⊢
        obtain ⟨nm,ea,es,ep,ew⟩ := e
        simp -implicitDefEqProofs (disch := first | assumption | (simp only [wnA]; done) | (simp only [wnA]; omega) | omega) [wkA,rtZ,sbZ,dC,ev,fiZ,pkZ,putAt,bnd,slD,gZ0,gZ1,dR_sl,Mem.cell,Mem.row,wmA,En.cells]
        rw [SK_bsl (cs := [.string nm,.int .i64 ea,.int .i64 es,.int .u32 ep,.int .i64 ew]) (by simp [wkA,rtZ,sbZ,dC,ev,fiZ,pkZ,putAt,bnd,slD,gZ0,gZ1,dR_sl]) (by simp)]
        simp -implicitDefEqProofs (disch := first | assumption | (simp only [wnA]; done) | (simp only [wnA]; omega) | omega) [wkA,rtZ,sbZ,dC,ev,fiZ,pkZ,putAt,bnd,slD,gZ0,gZ1,dR_sl,Mem.cell,Mem.row,wmA,t3]
        have so3 := (soM.keep o3.1 fun b hb => by subst hb; exact o3.2 b soM.lt).push (.own [.string nm,.int .i64 ea,.int .i64 es,.int .u32 ep,.int .i64 ew] 56)
        have o13 := ((o1.trans oM).trans o3).push (.own [.string nm,.int .i64 ea,.int .i64 es,.int .u32 ep,.int .i64 ew] 56)
        refine SK_appP o13 so3 hob (by simp [wkA,rtZ,sbZ,dC,ev,fiZ,pkZ,putAt,bnd,slD,gZ0,gZ1,dR_sl]) (ys := [.string nm,.int .i64 ea,.int .i64 es,.int .u32 ep,.int .i64 ew]) (k := 1) (by simp [wkA,rtZ,sbZ,dC,ev,fiZ,pkZ,putAt,bnd,slD,gZ0,gZ1,dR_sl,elemsV,Mem.cell,Mem.row,wmA]) (by simp [wkA,rtZ,sbZ,dC,ev,fiZ,pkZ,putAt,bnd,slD,gZ0,gZ1,dR_sl,lenV]) (by omega) rfl (by omega) (by simp [maxLen]; omega) rfl fun ob' m4 o4 s4 hob4 => ?_
        simp -implicitDefEqProofs (disch := first | assumption | (simp only [wnA]; done) | (simp only [wnA]; omega) | omega) [wkA,rtZ,sbZ,dC,ev,fiZ,pkZ,putAt,bnd,slD,gZ0,gZ1,dR_sl,Mem.cell,Mem.row,wmA,t8]
        have hl' : (entsJ xs (j + 1)).length = (entsJ xs j).length + 1 := by rw [hJ]; simp
        refine hK (k - 1) _ m4 (by omega) ⟨j + 1,ob',by omega,o4,by simp [hl'],by simp [t6,hvv],by simp [t7],by simp [hjw],?_,hob4⟩
        rw [hJ,List.flatMap_append]
        simpa [En.cells] using s4
      · have i8 : ¬ (j : Int) < 8 := by omega
        simp -implicitDefEqProofs (disch := first | assumption | (simp only [wnA]; done) | (simp only [wnA]; omega) | omega) [wkA,rtZ,sbZ,dC,ev,fiZ,pkZ,putAt,bnd,slD,gZ0,gZ1,dR_sl,Mem.cell,Mem.row,wmA,i8,t8]
        have hJ := entsJ_ge (xs := xs) h8
        refine hK (k - 1) _ M (by omega) ⟨j + 1,ob,by omega,o1.trans oM,by simp [t3,hJ],by simp [t6,hvv],by simp [t7],by simp [hjw],by rw [hJ]; exact soM,hob⟩
    · have hjj : j = xs.length := by omega
      subst hjj
      have ijl : ¬ (xs.length : Int) < (xs.length : Int) := by omega
      simp -implicitDefEqProofs (disch := first | assumption | (simp only [wnA]; done) | (simp only [wnA]; omega) | omega) [wkA,rtZ,sbZ,dC,ev,fiZ,pkZ,putAt,bnd,slD,gZ0,gZ1,dR_sl,Mem.cell,Mem.row,wmA,ijl,rc22_2,t3]
      exact hq m1 ob o1 so hob
def dupB (pre : List En) (e : En) : Bool := pre.any fun x => x.nm.data == e.nm.data
def rngP (e : En) : Prop := 0 ≤ e.a ∧ 1 ≤ e.s ∧ e.s ≤ 8192 ∧ e.a + roomOf e.s e.w ≤ 16384 ∧ 0 ≤ e.w ∧ e.w ≤ 3
def rngB (e : En) : Bool := decide (0 ≤ e.a) && decide (1 ≤ e.s) && decide (e.s ≤ 8192) && decide (e.a + roomOf e.s e.w ≤ 16384) && decide (0 ≤ e.w) && decide (e.w ≤ 3)
theorem rngB_iff {e : En} : rngB e = true ↔ rngP e := by
  unfold rngB rngP
  simp only [Bool.and_eq_true,decide_eq_true_eq]
  constructor
  · rintro ⟨⟨⟨⟨⟨a,b⟩,c⟩,d⟩,f⟩,g⟩; exact ⟨a,b,c,d,f,g⟩
  · rintro ⟨a,b,c,d,f,g⟩; exact ⟨⟨⟨⟨⟨a,b⟩,c⟩,d⟩,f⟩,g⟩
def lapB (e x : En) : Bool := decide (e.a < x.a + roomOf x.s x.w) && decide (x.a < e.a + roomOf e.s e.w)
def vdt (pre : List En) (e : En) : Nat := if nameB e.nm = false then 3 else if dupB pre e = true then 4 else if rngB e = false then 5 else if pre.any (lapB e) = true then 6 else 0
def chkF : Nat → List En → Nat → Int × Nat
  | 0,_,_ => (0,0)
  | f + 1,es,j => match es[j]? with
    | some e => if vdt (es.take j) e = 0 then chkF f es (j + 1) else ((j : Int),vdt (es.take j) e)
    | none => (0,0)
def chkV (es : List En) : Int × Nat := if es.length = 0 ∨ 8 < es.length then (-1,7) else chkF es.length es 0
theorem room_le (s w : Int) : 0 ≤ roomOf s w ∧ roomOf s w ≤ 8192 := by
  unfold roomOf
  split
  · split
    · omega
    · split <;> omega
  · omega
def EnI (e : En) : Prop := e.nm.size ≤ 9223372036854775807 ∧ (-9223372036854775808 ≤ e.a ∧ e.a ≤ 9223372036854775807)
def sameAt (l : List Nat) (fr fr' : Fr) : Prop := ∀ k ∈ l,fr' k = fr k
theorem w_dup {w0 : World} {Q : AQ} {fr : Fr} {m : Mem} {i5 j : Nat} {vs : Value} {pre : List En} {e : En} (hv : SlR m 5 vs (pre.flatMap En.cells) pre.length) (vb : ∀ b,blk vs = some b → b < m.next) (hl : pre.length ≤ 1000000) (hi5 : i5 < m.next)
    (g5 : m.get i5 = .own e.cells 56) (e5 : fr 5 = .pointer (some ⟨i5,0,none⟩)) (e34 : fr 34 = vs) (e35 : fr 35 = .int .i64 (pre.length : Nat)) (e36 : fr 36 = .int .i64 0) (e4 : fr 4 = .int .i64 (j : Int))
    (hq0 : dupB pre e = false → ∀ fr' m',Old m m' → sameAt [0,4,5,19,20,21] fr fr' → Q .normal fr' m')
    (hq1 : dupB pre e = true → ∀ fr' m',Old m m' → fr' 2 = .int .i64 (j : Int) → fr' 3 = .iface 44 (.int .i64 4) → Q .ret fr' m') : LoopW (AbW Tryz.prog w0 rc9_1) (inBlockA 2 Q) fr m := by
  obtain ⟨nm,ea,es,ep,ew⟩ := e
  have g5 : m.get i5 = .own [.string nm,.int .i64 ea,.int .i64 es,.int .u32 ep,.int .i64 ew] 56 := g5
  refine LoopW_of (fun k ts m' => ∃ i,i + k = pre.length ∧ Old m m' ∧ sameAt [0,4,5,19,20,21,34,35] fr ts ∧ ts 36 = .int .i64 (i : Nat) ∧ dupB (pre.take i) ⟨nm,ea,es,ep,ew⟩ = false) pre.length ?_ ?_
  · exact ⟨0,by omega,Old.refl m,fun k _ => rfl,e36,rfl⟩
  · rintro k ts m1 K ⟨i,hi,o1,sm,t36,hd⟩ hK
    have t4 := (sm 4 (by simp)).trans e4
    have t5 := (sm 5 (by simp)).trans e5
    have t34 := (sm 34 (by simp)).trans e34
    have t35 := (sm 35 (by simp)).trans e35
    simp -implicitDefEqProofs (disch := first | assumption | (simp only [wnA]; done) | (simp only [wnA]; omega) | omega) [rc9_1,wkA,rtZ,sbZ,dC,ev,fiZ,pkZ,putAt,bnd,slD,gZ0,gZ1,dR_sl,Mem.cell,Mem.row,wmA,t35,t36]
    by_cases hil : i < pre.length
    · have iil : (i : Int) < (pre.length : Int) := by omega
      have hiw : IntKind.i64.wrap ((i : Int) + 1) = ((i + 1 : Nat) : Int) := by rw [w64 (by omega)]; omega
      obtain ⟨bi,bo,L,hvv,hL,hLl,hLt,-⟩ := (hv.keep fun b h => o1.2 b (vb b h)).at hil
      rw [flat_at enl pre (List.getElem?_eq_getElem hil)] at hLt
      have htk : dupB (pre.take (i + 1)) ⟨nm,ea,es,ep,ew⟩ = (dupB (pre.take i) ⟨nm,ea,es,ep,ew⟩ || (pre[i].nm.data == nm.data)) := by
        rw [List.take_succ_eq_append_getElem hil,dupB,List.any_append]; simp [dupB]
      have hmem : (pre[i].nm.data == nm.data) = true → dupB pre ⟨nm,ea,es,ep,ew⟩ = true := fun h => List.any_eq_true.2 ⟨pre[i],List.getElem_mem hil,h⟩
      generalize pre[i] = x at *
      obtain ⟨xnm,xa,xs,xp,xw⟩ := x
      have hLt' : (L.drop (bo + i * 5)).take 5 = [.string xnm,.int .i64 xa,.int .i64 xs,.int .u32 xp,.int .i64 xw] := hLt
      have hle : bo + i * 5 + 5 ≤ L.length := by omega
      rw [hvv] at t34
      have g5' : m1.get i5 = .own [.string nm,.int .i64 ea,.int .i64 es,.int .u32 ep,.int .i64 ew] 56 := (o1.2 i5 hi5).trans g5
      simp -implicitDefEqProofs (disch := first | assumption | (simp only [wnA]; done) | (simp only [wnA]; omega) | omega) [hil,iil,rc9_0,wkA,rtZ,sbZ,dC,ev,fiZ,pkZ,putAt,bnd,slD,gZ0,gZ1,dR_sl,Mem.cell,Mem.row,wmA,t34,t36,sidx_at,hL,hLt',hle]
      refine SK_st (i := m1.next) (o := 0) (by simp [wkA,rtZ,sbZ,dC,ev,fiZ,pkZ,putAt,bnd,slD,gZ0,gZ1,dR_sl]) (e := 56) (by simp -implicitDefEqProofs (disch := first | assumption | (simp only [wnA]; done) | (simp only [wnA]; omega) | omega) [Mem.cell,Mem.row,wmA]; rfl) (by simp) (by simp [wkA,rtZ,sbZ,dC,ev,fiZ,pkZ,putAt,bnd,slD,gZ0,gZ1,dR_sl]) (by simp [wkA,rtZ,sbZ,dC,ev,fiZ,pkZ,putAt,bnd,slD,gZ0,gZ1,dR_sl,oneC]) ?_
      have ni5 : i5 ≠ m1.next := by have := o1.1; omega
      simp -implicitDefEqProofs (disch := first | assumption | (simp only [wnA]; done) | (simp only [wnA]; omega) | omega) [wkA,rtZ,sbZ,dC,ev,fiZ,pkZ,putAt,bnd,slD,gZ0,gZ1,dR_sl,Mem.cell,Mem.row,wmA,t5,g5',ni5]
      cases hx : (xnm.data == nm.data) with
      | true =>
        simp -implicitDefEqProofs (disch := first | assumption | (simp only [wnA]; done) | (simp only [wnA]; omega) | omega) [wkA,rtZ,sbZ,dC,ev,fiZ,pkZ,putAt,bnd,slD,gZ0,gZ1,dR_sl,Mem.cell,Mem.row,wmA,t4]
        exact hq1 (hmem hx) _ _ ((o1.push _).set o1.1 _) (by simp) (by simp)
      | false =>
        simp -implicitDefEqProofs (disch := first | assumption | (simp only [wnA]; done) | (simp only [wnA]; omega) | omega) [wkA,rtZ,sbZ,dC,ev,fiZ,pkZ,putAt,bnd,slD,gZ0,gZ1,dR_sl,Mem.cell,Mem.row,wmA,t36]
        refine hK (k - 1) _ _ (by omega) ⟨i + 1,by omega,(o1.push _).set o1.1 _,fun q hq => ?_,by simp [hiw],by rw [htk,hd]; simpa using hx⟩
        have := sm q hq
        simp only [List.mem_cons,List.not_mem_nil,or_false] at hq
        rcases hq with rfl | rfl | rfl | rfl | rfl | rfl | rfl | rfl <;> simp [this]
    · have hii : i = pre.length := by omega
      subst hii
      have iil : ¬ (pre.length : Int) < (pre.length : Int) := by omega
      rw [List.take_length] at hd
      simp -implicitDefEqProofs (disch := first | assumption | (simp only [wnA]; done) | (simp only [wnA]; omega) | omega) [wkA,rtZ,sbZ,dC,ev,fiZ,pkZ,putAt,bnd,slD,gZ0,gZ1,dR_sl,Mem.cell,Mem.row,wmA,iil]
      refine hq0 hd _ _ o1 fun q hq => ?_
      have := sm q (by simp only [List.mem_cons,List.not_mem_nil,or_false] at hq ⊢; omega)
      simp only [List.mem_cons,List.not_mem_nil,or_false] at hq
      rcases hq with rfl | rfl | rfl | rfl | rfl | rfl <;> simp [this]
theorem w_lap {w0 : World} {Q : AQ} {fr : Fr} {m : Mem} {i5 j : Nat} {vs : Value} {pre : List En} {e : En} (hv : SlR m 5 vs (pre.flatMap En.cells) pre.length) (vb : ∀ b,blk vs = some b → b < m.next) (hl : pre.length ≤ 1000000) (hi5 : i5 < m.next)
    (hr : ∀ x ∈ pre,rngP x) (he : rngP e)
    (g5 : m.get i5 = .own e.cells 56) (e5 : fr 5 = .pointer (some ⟨i5,0,none⟩)) (e83 : fr 83 = vs) (e84 : fr 84 = .int .i64 (pre.length : Nat)) (e85 : fr 85 = .int .i64 0) (e4 : fr 4 = .int .i64 (j : Int))
    (hq0 : pre.any (lapB e) = false → ∀ fr' m',Old m m' → sameAt [0,4,5,19,20,21] fr fr' → Q .normal fr' m')
    (hq1 : pre.any (lapB e) = true → ∀ fr' m',Old m m' → fr' 2 = .int .i64 (j : Int) → fr' 3 = .iface 44 (.int .i64 6) → Q .ret fr' m') : LoopW (AbW Tryz.prog w0 rc9_3) (inBlockA 4 Q) fr m := by
  obtain ⟨nm,ea,es,ep,ew⟩ := e
  have g5 : m.get i5 = .own [.string nm,.int .i64 ea,.int .i64 es,.int .u32 ep,.int .i64 ew] 56 := g5
  refine LoopW_of (fun k ts m' => ∃ i,i + k = pre.length ∧ Old m m' ∧ sameAt [0,4,5,19,20,21,83,84] fr ts ∧ ts 85 = .int .i64 (i : Nat) ∧ (pre.take i).any (lapB ⟨nm,ea,es,ep,ew⟩) = false) pre.length ?_ ?_
  · exact ⟨0,by omega,Old.refl m,fun k _ => rfl,e85,rfl⟩
  · rintro k ts m1 K ⟨i,hi,o1,sm,t85,hd⟩ hK
    have t4 := (sm 4 (by simp)).trans e4
    have t5 := (sm 5 (by simp)).trans e5
    have t83 := (sm 83 (by simp)).trans e83
    have t84 := (sm 84 (by simp)).trans e84
    simp -implicitDefEqProofs (disch := first | assumption | (simp only [wnA]; done) | (simp only [wnA]; omega) | omega) [rc9_3,wkA,rtZ,sbZ,dC,ev,fiZ,pkZ,putAt,bnd,slD,gZ0,gZ1,dR_sl,Mem.cell,Mem.row,wmA,t84,t85]
    by_cases hil : i < pre.length
    · have iil : (i : Int) < (pre.length : Int) := by omega
      have hiw : IntKind.i64.wrap ((i : Int) + 1) = ((i + 1 : Nat) : Int) := by rw [w64 (by omega)]; omega
      obtain ⟨bi,bo,L,hvv,hL,hLl,hLt,-⟩ := (hv.keep fun b h => o1.2 b (vb b h)).at hil
      rw [flat_at enl pre (List.getElem?_eq_getElem hil)] at hLt
      have htk : (pre.take (i + 1)).any (lapB ⟨nm,ea,es,ep,ew⟩) = ((pre.take i).any (lapB ⟨nm,ea,es,ep,ew⟩) || lapB ⟨nm,ea,es,ep,ew⟩ pre[i]) := by
        rw [List.take_succ_eq_append_getElem hil,List.any_append]; simp
      have hmem : lapB ⟨nm,ea,es,ep,ew⟩ pre[i] = true → pre.any (lapB ⟨nm,ea,es,ep,ew⟩) = true := fun h => List.any_eq_true.2 ⟨pre[i],List.getElem_mem hil,h⟩
      have hrx := hr pre[i] (List.getElem_mem hil)
      generalize pre[i] = x at *
      obtain ⟨xnm,xa,xs,xp,xw⟩ := x
      have hLt' : (L.drop (bo + i * 5)).take 5 = [.string xnm,.int .i64 xa,.int .i64 xs,.int .u32 xp,.int .i64 xw] := hLt
      have hle : bo + i * 5 + 5 ≤ L.length := by omega
      rw [hvv] at t83
      have g5' : m1.get i5 = .own [.string nm,.int .i64 ea,.int .i64 es,.int .u32 ep,.int .i64 ew] 56 := (o1.2 i5 hi5).trans g5
      obtain ⟨x1,x2,x3,x4,-,-⟩ := hrx
      obtain ⟨y1,y2,y3,y4,-,-⟩ := he
      simp only at x1 x2 x3 x4 y1 y2 y3 y4
      have rx := room_le xs xw
      have ry := room_le es ew
      have w1 : IntKind.i64.wrap (xa + roomOf xs xw) = xa + roomOf xs xw := w64 (by omega)
      have w2 : IntKind.i64.wrap (ea + roomOf es ew) = ea + roomOf es ew := w64 (by omega)
      have hlap : lapB ⟨nm,ea,es,ep,ew⟩ ⟨xnm,xa,xs,xp,xw⟩ = (decide (ea < xa + roomOf xs xw) && decide (xa < ea + roomOf es ew)) := rfl
      simp -implicitDefEqProofs (disch := first | assumption | (simp only [wnA]; done) | (simp only [wnA]; omega) | omega) [hil,iil,rc9_2,wkA,rtZ,sbZ,dC,ev,fiZ,pkZ,putAt,bnd,slD,gZ0,gZ1,dR_sl,Mem.cell,Mem.row,wmA,t83,t85,sidx_at,hL,hLt',hle]
      refine SK_st (i := m1.next) (o := 0) (by simp [wkA,rtZ,sbZ,dC,ev,fiZ,pkZ,putAt,bnd,slD,gZ0,gZ1,dR_sl]) (e := 56) (by simp -implicitDefEqProofs (disch := first | assumption | (simp only [wnA]; done) | (simp only [wnA]; omega) | omega) [Mem.cell,Mem.row,wmA]; rfl) (by simp) (by simp [wkA,rtZ,sbZ,dC,ev,fiZ,pkZ,putAt,bnd,slD,gZ0,gZ1,dR_sl]) (by simp [wkA,rtZ,sbZ,dC,ev,fiZ,pkZ,putAt,bnd,slD,gZ0,gZ1,dR_sl,oneC]) ?_
      have ni5 : i5 ≠ m1.next := by have := o1.1; omega
      obtain ⟨M,hM⟩ : ∃ M,(m1.push (.own [.string ⟨#[]⟩,.int .i64 0,.int .i64 0,.int .u32 0,.int .i64 0] 56)).set m1.next (.own [.string xnm,.int .i64 xa,.int .i64 xs,.int .u32 xp,.int .i64 xw] 56) = M := ⟨_,rfl⟩
      have oM : Old m1 M := by subst hM; exact ((Old.refl m1).push _).set (Nat.le_refl _) _
      have gM : M.get m1.next = .own [.string xnm,.int .i64 xa,.int .i64 xs,.int .u32 xp,.int .i64 xw] 56 := by subst hM; rw [Mem.set_same]
      have nM : m1.next < M.next := by subst hM; simp
      have g5M := (oM.2 i5 (by have := o1.1; omega)).trans g5'
      have oMm := o1.trans oM
      simp -implicitDefEqProofs (disch := first | assumption | (simp only [wnA]; done) | (simp only [wnA]; omega) | omega) [wkA,rtZ,sbZ,dC,ev,fiZ,pkZ,putAt,bnd,slD,gZ0,gZ1,dR_sl,Mem.cell,Mem.row,wmA,hM,t5,g5M,gM]
      refine c_Room fun m3 o3 => ?_
      have g53 := (o3.2 i5 (by have := oMm.1; omega)).trans g5M
      have gM3 := (o3.2 m1.next nM).trans gM
      have o3m := oMm.trans o3
      simp -implicitDefEqProofs (disch := first | assumption | (simp only [wnA]; done) | (simp only [wnA]; omega) | omega) [wkA,rtZ,sbZ,dC,ev,fiZ,pkZ,putAt,bnd,slD,gZ0,gZ1,dR_sl,Mem.cell,Mem.row,wmA,hM,t5,g53,gM3,w1]
      have next : ∀ (ts' : Fr) (m' : Mem),Old m m' → lapB ⟨nm,ea,es,ep,ew⟩ ⟨xnm,xa,xs,xp,xw⟩ = false → (∀ q ∈ [0,4,5,19,20,21,83,84],ts' q = ts q) → ts' 85 = .int .i64 ((i + 1 : Nat) : Int) → K ts' m' := fun ts' m' o' hlf hs h85 =>
        hK (k - 1) _ _ (by omega) ⟨i + 1,by omega,o',fun q hq => (hs q hq).trans (sm q hq),h85,by rw [htk,hd,hlf]; rfl⟩
      by_cases h1 : ea < xa + roomOf xs xw
      · simp -implicitDefEqProofs (disch := first | assumption | (simp only [wnA]; done) | (simp only [wnA]; omega) | omega) [wkA,rtZ,sbZ,dC,ev,fiZ,pkZ,putAt,bnd,slD,gZ0,gZ1,dR_sl,Mem.cell,Mem.row,wmA,ltT h1,t5,g53,gM3]
        refine c_Room fun m4 o4 => ?_
        have g54 := (o4.2 i5 (by have := o3m.1; omega)).trans g53
        have gM4 := (o4.2 m1.next (by have := o3.1; omega)).trans gM3
        simp -implicitDefEqProofs (disch := first | assumption | (simp only [wnA]; done) | (simp only [wnA]; omega) | omega) [wkA,rtZ,sbZ,dC,ev,fiZ,pkZ,putAt,bnd,slD,gZ0,gZ1,dR_sl,Mem.cell,Mem.row,wmA,t5,g54,gM4,w2]
        by_cases h2 : xa < ea + roomOf es ew
        · simp -implicitDefEqProofs (disch := first | assumption | (simp only [wnA]; done) | (simp only [wnA]; omega) | omega) [wkA,rtZ,sbZ,dC,ev,fiZ,pkZ,putAt,bnd,slD,gZ0,gZ1,dR_sl,Mem.cell,Mem.row,wmA,ltT h2,t4]
          exact hq1 (hmem (by rw [hlap,ltT h1,ltT h2]; rfl)) _ _ (o3m.trans o4) (by simp) (by simp)
        · have h2 : ea + roomOf es ew ≤ xa := by omega
          simp -implicitDefEqProofs (disch := first | assumption | (simp only [wnA]; done) | (simp only [wnA]; omega) | omega) [wkA,rtZ,sbZ,dC,ev,fiZ,pkZ,putAt,bnd,slD,gZ0,gZ1,dR_sl,Mem.cell,Mem.row,wmA,ltF h2,t85]
          refine next _ _ (o3m.trans o4) (by rw [hlap,ltF h2]; simp) (fun q hq => ?_) (by simp [hiw])
          simp only [List.mem_cons,List.not_mem_nil,or_false] at hq
          rcases hq with rfl | rfl | rfl | rfl | rfl | rfl | rfl | rfl <;> simp
      · have h1 : xa + roomOf xs xw ≤ ea := by omega
        simp -implicitDefEqProofs (disch := first | assumption | (simp only [wnA]; done) | (simp only [wnA]; omega) | omega) [wkA,rtZ,sbZ,dC,ev,fiZ,pkZ,putAt,bnd,slD,gZ0,gZ1,dR_sl,Mem.cell,Mem.row,wmA,ltF h1,t85]
        refine next _ _ o3m (by rw [hlap,ltF h1]; simp) (fun q hq => ?_) (by simp [hiw])
        simp only [List.mem_cons,List.not_mem_nil,or_false] at hq
        rcases hq with rfl | rfl | rfl | rfl | rfl | rfl | rfl | rfl <;> simp
    · have hii : i = pre.length := by omega
      subst hii
      have iil : ¬ (pre.length : Int) < (pre.length : Int) := by omega
      rw [List.take_length] at hd
      simp -implicitDefEqProofs (disch := first | assumption | (simp only [wnA]; done) | (simp only [wnA]; omega) | omega) [wkA,rtZ,sbZ,dC,ev,fiZ,pkZ,putAt,bnd,slD,gZ0,gZ1,dR_sl,Mem.cell,Mem.row,wmA,iil]
      refine hq0 hd _ _ o1 fun q hq => ?_
      have := sm q (by simp only [List.mem_cons,List.not_mem_nil,or_false] at hq ⊢; omega)
      simp only [List.mem_cons,List.not_mem_nil,or_false] at hq
      rcases hq with rfl | rfl | rfl | rfl | rfl | rfl <;> simp [this]
theorem chkF_step {f : Nat} {es : List En} {j : Nat} (hj : j < es.length) : chkF (f + 1) es j = if vdt (es.take j) es[j] = 0 then chkF f es (j + 1) else ((j : Int),vdt (es.take j) es[j]) := by
  simp only [chkF,List.getElem?_eq_getElem hj]
theorem rng_cases (e : En) : e.a < 0 ∨ (0 ≤ e.a ∧ e.s < 1) ∨ (0 ≤ e.a ∧ 1 ≤ e.s ∧ 8192 < e.s) ∨ (0 ≤ e.a ∧ 1 ≤ e.s ∧ e.s ≤ 8192 ∧ 16384 - roomOf e.s e.w < e.a) ∨ (0 ≤ e.a ∧ 1 ≤ e.s ∧ e.s ≤ 8192 ∧ e.a ≤ 16384 - roomOf e.s e.w ∧ e.w < 0) ∨ (0 ≤ e.a ∧ 1 ≤ e.s ∧ e.s ≤ 8192 ∧ e.a ≤ 16384 - roomOf e.s e.w ∧ 0 ≤ e.w ∧ 3 < e.w) ∨ (0 ≤ e.a ∧ 1 ≤ e.s ∧ e.s ≤ 8192 ∧ e.a ≤ 16384 - roomOf e.s e.w ∧ 0 ≤ e.w ∧ e.w ≤ 3) := by omega
theorem vdt_cases (pre : List En) (e : En) : (nameB e.nm = false ∧ vdt pre e = 3) ∨ (nameB e.nm = true ∧ ((dupB pre e = true ∧ vdt pre e = 4) ∨ (dupB pre e = false ∧ ((rngB e = false ∧ vdt pre e = 5) ∨ (rngB e = true ∧ ((pre.any (lapB e) = true ∧ vdt pre e = 6) ∨ (pre.any (lapB e) = false ∧ vdt pre e = 0))))))) := by
  unfold vdt
  cases h1 : nameB e.nm <;> cases h2 : dupB pre e <;> cases h3 : rngB e <;> cases h4 : pre.any (lapB e) <;> simp
theorem flat_take {α : Type} {f : α → List Value} {k : Nat} (hf : ∀ x,(f x).length = k) : ∀ (l : List α) (j : Nat),(l.flatMap f).take (j * k) = (l.take j).flatMap f
  | l,0 => by simp
  | [],j + 1 => by simp
  | x :: l,j + 1 => by
    rw [List.flatMap_cons,List.take_succ_cons,List.flatMap_cons,← flat_take hf l j,List.take_append,List.take_of_length_le (by rw [hf,Nat.add_mul]; omega),hf]
    congr 2
    rw [Nat.add_mul]; omega
theorem c_mCheck {w0 : World} {m : Mem} {v : Value} {es : List En} {Q : Value → Mem → Prop} (hv : SlR m 5 v (es.flatMap En.cells) es.length) (vb : ∀ b,blk v = some b → b < m.next) (he : ∀ e ∈ es,EnI e) (hn : es.length ≤ 9223372036854775807)
    (hq : ∀ m',Old m m' → Q (.tuple ⟨[.int .i64 (chkV es).1,errnoV (chkV es).2]⟩) m') : AbC Tryz.prog w0 9 [v] m Q := by
  refine AbC_fn ok9 (by simp) ?_
  simp -implicitDefEqProofs (disch := first | assumption | (simp only [wnA]; done) | (simp only [wnA]; omega) | omega) [rc9,ro9,wkA,rtZ,sbZ,dC,ev,fiZ,pkZ,putAt,bnd,slD,gZ0,gZ1,dR_sl,Mem.cell,Mem.row,wmA,hv.slen]
  by_cases h0 : es.length = 0
  · have hc : chkV es = (-1,7) := by unfold chkV; rw [if_pos (.inl h0)]
    rw [hc] at hq
    have i0 : (es.length : Int) = 0 := by omega
    simp -implicitDefEqProofs (disch := first | assumption | (simp only [wnA]; done) | (simp only [wnA]; omega) | omega) [wkA,rtZ,sbZ,dC,ev,fiZ,pkZ,putAt,bnd,slD,gZ0,gZ1,dR_sl,Mem.cell,Mem.row,wmA,i0,hv.slen]
    exact hq m (Old.refl m)
  · have i0 : ¬ (es.length : Int) = 0 := by omega
    by_cases h8 : 8 < es.length
    · have hc : chkV es = (-1,7) := by unfold chkV; rw [if_pos (.inr h8)]
      rw [hc] at hq
      have i8 : (8 : Int) < (es.length : Int) := by omega
      simp -implicitDefEqProofs (disch := first | assumption | (simp only [wnA]; done) | (simp only [wnA]; omega) | omega) [wkA,rtZ,sbZ,dC,ev,fiZ,pkZ,putAt,bnd,slD,gZ0,gZ1,dR_sl,Mem.cell,Mem.row,wmA,beqF i0,gtT i8,hv.slen]
      exact hq m (Old.refl m)
    · have hc : chkV es = chkF es.length es 0 := by unfold chkV; rw [if_neg (by omega)]
      rw [hc] at hq
      have i8 : (es.length : Int) ≤ 8 := by omega
      simp -implicitDefEqProofs (disch := first | assumption | (simp only [wnA]; done) | (simp only [wnA]; omega) | omega) [wkA,rtZ,sbZ,dC,ev,fiZ,pkZ,putAt,bnd,slD,gZ0,gZ1,dR_sl,Mem.cell,Mem.row,wmA,beqF i0,gtF i8,hv.slen,rc9_10]
      refine LoopW_of (fun k ts m' => ∃ j,j + k = es.length ∧ Old m m' ∧ ts 0 = v ∧ ts 19 = v ∧ ts 20 = .int .i64 (es.length : Nat) ∧ ts 21 = .int .i64 (j : Nat) ∧ chkF k es j = chkF es.length es 0 ∧ (∀ x ∈ es.take j,rngP x)) es.length ?_ ?_
      · exact ⟨0,by omega,Old.refl m,by simp [frA_at],by simp [frA_at],by simp,by simp,rfl,fun x hx => by simp at hx⟩
      · rintro k ts m1 K ⟨j,hj,o1,t0,t19,t20,t21,hck,hpre⟩ hK
        simp -implicitDefEqProofs (disch := first | assumption | (simp only [wnA]; done) | (simp only [wnA]; omega) | omega) [rc9_8,wkA,rtZ,sbZ,dC,ev,fiZ,pkZ,putAt,bnd,slD,gZ0,gZ1,dR_sl,Mem.cell,Mem.row,wmA,t20,t21]
        by_cases hjl : j < es.length
        · have ijl : (j : Int) < (es.length : Int) := by omega
          have hjw : IntKind.i64.wrap ((j : Int) + 1) = ((j + 1 : Nat) : Int) := by rw [w64 (by omega)]; omega
          have hv1 := hv.keep fun b h => o1.2 b (vb b h)
          obtain ⟨bi,bo,L,hvv,hL,hLl,hLt,-⟩ := hv1.at hjl
          rw [flat_at enl es (List.getElem?_eq_getElem hjl)] at hLt
          obtain ⟨k,rfl⟩ : ∃ k',k = k' + 1 := ⟨k - 1,by omega⟩
          rw [chkF_step hjl] at hck
          have hei := he es[j] (List.getElem_mem hjl)
          have hpre' : rngB es[j] = true → ∀ x ∈ es.take (j + 1),rngP x := fun hb x hx => by
            rw [List.take_succ_eq_append_getElem hjl] at hx
            rcases List.mem_append.1 hx with hx | hx
            · exact hpre x hx
            · simp at hx; subst hx; exact rngB_iff.1 hb
          obtain ⟨pre,hpr⟩ : ∃ pre,es.take j = pre := ⟨_,rfl⟩
          have hpl : pre.length = j := by rw [← hpr,List.length_take]; omega
          have hsl := hv.upto (k := j) (by omega)
          rw [show (es.flatMap En.cells).take (j * 5) = pre.flatMap En.cells from by rw [← hpr]; exact flat_take enl es j] at hsl
          obtain ⟨vs,hvs,hvr,hvb⟩ := hsl
          rw [hpr] at hck hpre
          have vd := vdt_cases pre es[j]
          generalize es[j] = e at *
          obtain ⟨nm,ea,es',ep,ew⟩ := e
          have hLt' : (L.drop (bo + j * 5)).take 5 = [.string nm,.int .i64 ea,.int .i64 es',.int .u32 ep,.int .i64 ew] := hLt
          have hle : bo + j * 5 + 5 ≤ L.length := by omega
          have t19' := t19
          rw [hvv] at t19'
          simp -implicitDefEqProofs (disch := first | assumption | (simp only [wnA]; done) | (simp only [wnA]; omega) | omega) [hjl,ijl,rc9_7,wkA,rtZ,sbZ,dC,ev,fiZ,pkZ,putAt,bnd,slD,gZ0,gZ1,dR_sl,Mem.cell,Mem.row,wmA,t19',t21,sidx_at,hL,hLt',hle]
          refine SK_st (i := m1.next) (o := 0) (by simp [wkA,rtZ,sbZ,dC,ev,fiZ,pkZ,putAt,bnd,slD,gZ0,gZ1,dR_sl]) (e := 56) (by simp -implicitDefEqProofs (disch := first | assumption | (simp only [wnA]; done) | (simp only [wnA]; omega) | omega) [Mem.cell,Mem.row,wmA]; rfl) (by simp) (by simp [wkA,rtZ,sbZ,dC,ev,fiZ,pkZ,putAt,bnd,slD,gZ0,gZ1,dR_sl]) (by simp [wkA,rtZ,sbZ,dC,ev,fiZ,pkZ,putAt,bnd,slD,gZ0,gZ1,dR_sl,oneC]) ?_
          obtain ⟨M,hM⟩ : ∃ M,(m1.push (.own [.string ⟨#[]⟩,.int .i64 0,.int .i64 0,.int .u32 0,.int .i64 0] 56)).set m1.next (.own [.string nm,.int .i64 ea,.int .i64 es',.int .u32 ep,.int .i64 ew] 56) = M := ⟨_,rfl⟩
          have oM : Old m1 M := by subst hM; exact ((Old.refl m1).push _).set (Nat.le_refl _) _
          have gM : M.get m1.next = .own [.string nm,.int .i64 ea,.int .i64 es',.int .u32 ep,.int .i64 ew] 56 := by subst hM; rw [Mem.set_same]
          have nM : m1.next < M.next := by subst hM; simp
          have oMm := o1.trans oM
          simp -implicitDefEqProofs (disch := first | assumption | (simp only [wnA]; done) | (simp only [wnA]; omega) | omega) [wkA,rtZ,sbZ,dC,ev,fiZ,pkZ,putAt,bnd,slD,gZ0,gZ1,dR_sl,Mem.cell,Mem.row,wmA,hM,gM]
          refine c_Name hei.1 ?_
          rcases vd with ⟨n1,hvd⟩ | ⟨n1,vd⟩
          · have n1 : nameB nm = false := n1
            rw [hvd] at hck
            have hck : ((j : Int),3) = chkF es.length es 0 := hck
            rw [← hck] at hq
            simp -implicitDefEqProofs (disch := first | assumption | (simp only [wnA]; done) | (simp only [wnA]; omega) | omega) [wkA,rtZ,sbZ,dC,ev,fiZ,pkZ,putAt,bnd,slD,gZ0,gZ1,dR_sl,Mem.cell,Mem.row,wmA,n1]
            exact hq M oMm
          · have n1 : nameB nm = true := n1
            simp -implicitDefEqProofs (disch := first | assumption | (simp only [wnA]; done) | (simp only [wnA]; omega) | omega) [wkA,rtZ,sbZ,dC,ev,fiZ,pkZ,putAt,bnd,slD,gZ0,gZ1,dR_sl,Mem.cell,Mem.row,wmA,n1,rc9_6,t0,hvs,hvr.slen]
            have hvM : SlR M 5 vs (pre.flatMap En.cells) pre.length := by rw [hpl]; exact hvr.keep fun b h => oMm.2 b (vb b (hvb b h))
            have vbM : ∀ b,blk vs = some b → b < M.next := fun b h => Nat.lt_of_lt_of_le (vb b (hvb b h)) oMm.1
            have hq1 : ∀ (n : Nat),vdt pre ⟨nm,ea,es',ep,ew⟩ = n + 1 → ∀ m',Old m m' → Q (.tuple ⟨[.int .i64 (j : Int),.iface 44 (.int .i64 ((n + 1 : Nat) : Int))]⟩) m' := fun n hn m' o' => by
              rw [hn] at hck
              have hck : ((j : Int),n + 1) = chkF es.length es 0 := hck
              rw [← hck] at hq
              exact hq m' o'
            refine w_dup (i5 := m1.next) (j := j) (vs := vs) (pre := pre) (e := ⟨nm,ea,es',ep,ew⟩) hvM vbM (by omega) nM gM (by simp) (by simp) (by simp [hpl]) (by simp) (by simp) (fun hd fr' m' o' hs => ?_) fun hd fr' m' o' h2 h3 => ?_
            · have f0 := (hs 0 (by simp)).trans (by simp [t0] : _ = v)
              have f4 := (hs 4 (by simp)).trans (by simp : _ = .int .i64 (j : Int))
              have f5 := (hs 5 (by simp)).trans (by simp : _ = .pointer (some ⟨m1.next,0,none⟩))
              have f19 := (hs 19 (by simp)).trans (by simp [t19] : _ = v)
              have f20 := (hs 20 (by simp)).trans (by simp [t20] : _ = .int .i64 (es.length : Nat))
              have f21 := (hs 21 (by simp)).trans (by simp [t21] : _ = .int .i64 (j : Nat))
              have vd : (rngB ⟨nm,ea,es',ep,ew⟩ = false ∧ vdt pre ⟨nm,ea,es',ep,ew⟩ = 5) ∨ (rngB ⟨nm,ea,es',ep,ew⟩ = true ∧ ((pre.any (lapB ⟨nm,ea,es',ep,ew⟩) = true ∧ vdt pre ⟨nm,ea,es',ep,ew⟩ = 6) ∨ (pre.any (lapB ⟨nm,ea,es',ep,ew⟩) = false ∧ vdt pre ⟨nm,ea,es',ep,ew⟩ = 0))) := by
                rcases vd with ⟨h,-⟩ | ⟨-,h⟩
                · rw [hd] at h; cases h
                · exact h
              have g5 := (o'.2 m1.next nM).trans gM
              have o2 := oMm.trans o'
              have nM' : m1.next < m'.next := Nat.lt_of_lt_of_le nM o'.1
              have rr := room_le es' ew
              have wr : IntKind.i64.wrap (16384 - roomOf es' ew) = 16384 - roomOf es' ew := w64 (by omega)
              have bad : ¬ rngP ⟨nm,ea,es',ep,ew⟩ → vdt pre ⟨nm,ea,es',ep,ew⟩ = 4 + 1 := fun h => by
                rcases vd with ⟨-,h1⟩ | ⟨h1,-⟩
                · exact h1
                · exact absurd (rngB_iff.1 h1) h
              have rc := rng_cases ⟨nm,ea,es',ep,ew⟩
              simp only at rc
              rcases rc with h | ⟨h,h'⟩ | ⟨h,h',h2⟩ | ⟨h,h',h2,h3⟩ | ⟨h,h',h2,h3,h4⟩ | ⟨h,h',h2,h3,h4,h9⟩ | ⟨h,h',h2,h3,h4,h9⟩
              · have hb := bad fun hp => by have := hp.1; simp only at this; omega
                simp -implicitDefEqProofs (disch := first | assumption | (simp only [wnA]; done) | (simp only [wnA]; omega) | omega) [rc9_5,wkA,rtZ,sbZ,dC,ev,fiZ,pkZ,putAt,bnd,slD,gZ0,gZ1,dR_sl,Mem.cell,Mem.row,wmA,f5,g5,f4,ltT h]
                exact hq1 4 hb _ o2
              · have hb := bad fun hp => by have := hp.2.1; simp only at this; omega
                simp -implicitDefEqProofs (disch := first | assumption | (simp only [wnA]; done) | (simp only [wnA]; omega) | omega) [rc9_5,wkA,rtZ,sbZ,dC,ev,fiZ,pkZ,putAt,bnd,slD,gZ0,gZ1,dR_sl,Mem.cell,Mem.row,wmA,f5,g5,f4,ltF h,ltT h']
                exact hq1 4 hb _ o2
              · have hb := bad fun hp => by have := hp.2.2.1; simp only at this; omega
                simp -implicitDefEqProofs (disch := first | assumption | (simp only [wnA]; done) | (simp only [wnA]; omega) | omega) [rc9_5,wkA,rtZ,sbZ,dC,ev,fiZ,pkZ,putAt,bnd,slD,gZ0,gZ1,dR_sl,Mem.cell,Mem.row,wmA,f5,g5,f4,ltF h,ltF h',gtT h2]
                exact hq1 4 hb _ o2
              all_goals simp -implicitDefEqProofs (disch := first | assumption | (simp only [wnA]; done) | (simp only [wnA]; omega) | omega) [rc9_5,wkA,rtZ,sbZ,dC,ev,fiZ,pkZ,putAt,bnd,slD,gZ0,gZ1,dR_sl,Mem.cell,Mem.row,wmA,f5,g5,f4,ltF h,ltF h',gtF h2]
              all_goals refine c_Room fun m3 o3 => ?_
              all_goals have g53 := (o3.2 m1.next nM').trans g5
              all_goals have o3m := o2.trans o3
              · have hb := bad fun hp => by have := hp.2.2.2.1; simp only at this; omega
                simp -implicitDefEqProofs (disch := first | assumption | (simp only [wnA]; done) | (simp only [wnA]; omega) | omega) [wkA,rtZ,sbZ,dC,ev,fiZ,pkZ,putAt,bnd,slD,gZ0,gZ1,dR_sl,Mem.cell,Mem.row,wmA,f5,g53,f4,wr,gtT h3]
                exact hq1 4 hb _ o3m
              · have hb := bad fun hp => by have := hp.2.2.2.2.1; simp only at this; omega
                simp -implicitDefEqProofs (disch := first | assumption | (simp only [wnA]; done) | (simp only [wnA]; omega) | omega) [wkA,rtZ,sbZ,dC,ev,fiZ,pkZ,putAt,bnd,slD,gZ0,gZ1,dR_sl,Mem.cell,Mem.row,wmA,f5,g53,f4,wr,gtF h3,ltT h4]
                exact hq1 4 hb _ o3m
              · have hb := bad fun hp => by have := hp.2.2.2.2.2; simp only at this; omega
                simp -implicitDefEqProofs (disch := first | assumption | (simp only [wnA]; done) | (simp only [wnA]; omega) | omega) [wkA,rtZ,sbZ,dC,ev,fiZ,pkZ,putAt,bnd,slD,gZ0,gZ1,dR_sl,Mem.cell,Mem.row,wmA,f5,g53,f4,wr,gtF h3,ltF h4,gtT h9]
                exact hq1 4 hb _ o3m
              · have hrp : rngP ⟨nm,ea,es',ep,ew⟩ := ⟨h,h',h2,by show ea + roomOf es' ew ≤ 16384; omega,h4,h9⟩
                have hrb := rngB_iff.2 hrp
                have vd : (pre.any (lapB ⟨nm,ea,es',ep,ew⟩) = true ∧ vdt pre ⟨nm,ea,es',ep,ew⟩ = 6) ∨ (pre.any (lapB ⟨nm,ea,es',ep,ew⟩) = false ∧ vdt pre ⟨nm,ea,es',ep,ew⟩ = 0) := by
                  rcases vd with ⟨h,-⟩ | ⟨-,h⟩
                  · rw [hrb] at h; cases h
                  · exact h
                simp -implicitDefEqProofs (disch := first | assumption | (simp only [wnA]; done) | (simp only [wnA]; omega) | omega) [wkA,rtZ,sbZ,dC,ev,fiZ,pkZ,putAt,bnd,slD,gZ0,gZ1,dR_sl,Mem.cell,Mem.row,wmA,f5,g53,f4,wr,gtF h3,ltF h4,gtF h9,rc9_4,f0,hvs,hvr.slen]
                have hv3 : SlR m3 5 vs (pre.flatMap En.cells) pre.length := hvM.keep fun b h => by rw [o3.2 b (Nat.lt_of_lt_of_le (vbM b h) o'.1),o'.2 b (vbM b h)]
                refine w_lap (i5 := m1.next) (j := j) (vs := vs) (pre := pre) (e := ⟨nm,ea,es',ep,ew⟩) hv3 (fun b h => Nat.lt_of_lt_of_le (vbM b h) (Nat.le_trans o'.1 o3.1)) (by omega) (Nat.lt_of_lt_of_le nM' o3.1) hpre hrp g53 (by simp [f5]) (by simp) (by simp [hpl]) (by simp) (by simp [f4]) (fun hl fr2 m4 o4 hs2 => ?_) fun hl fr2 m4 o4 h2 h3 => ?_
                · have hv0 : vdt pre ⟨nm,ea,es',ep,ew⟩ = 0 := by
                    rcases vd with ⟨h,-⟩ | ⟨-,h⟩
                    · rw [hl] at h; cases h
                    · exact h
                  rw [if_pos hv0] at hck
                  have f0' := (hs2 0 (by simp)).trans (by simp [f0] : _ = v)
                  have f19' := (hs2 19 (by simp)).trans (by simp [f19] : _ = v)
                  have f20' := (hs2 20 (by simp)).trans (by simp [f20] : _ = .int .i64 (es.length : Nat))
                  have f21' := (hs2 21 (by simp)).trans (by simp [f21] : _ = .int .i64 (j : Nat))
                  simp -implicitDefEqProofs (disch := first | assumption | (simp only [wnA]; done) | (simp only [wnA]; omega) | omega) [wkA,rtZ,sbZ,dC,ev,fiZ,pkZ,putAt,bnd,slD,gZ0,gZ1,dR_sl,Mem.cell,Mem.row,wmA,f21']
                  exact hK k _ m4 (by omega) ⟨j + 1,by omega,o3m.trans o4,by simp [f0'],by simp [f19'],by simp [f20'],by simp [hjw],hck,hpre' hrb⟩
                · have hv6 : vdt pre ⟨nm,ea,es',ep,ew⟩ = 5 + 1 := by
                    rcases vd with ⟨-,h⟩ | ⟨h,-⟩
                    · exact h
                    · rw [hl] at h; cases h
                  simp -implicitDefEqProofs (disch := first | assumption | (simp only [wnA]; done) | (simp only [wnA]; omega) | omega) [wkA,rtZ,sbZ,dC,ev,fiZ,pkZ,putAt,bnd,slD,gZ0,gZ1,dR_sl,Mem.cell,Mem.row,wmA,h2,h3]
                  exact hq1 5 hv6 _ (o3m.trans o4)
            · have hv4 : vdt pre ⟨nm,ea,es',ep,ew⟩ = 3 + 1 := by
                rcases vd with ⟨-,h⟩ | ⟨h,-⟩
                · exact h
                · rw [hd] at h; cases h
              simp -implicitDefEqProofs (disch := first | assumption | (simp only [wnA]; done) | (simp only [wnA]; omega) | omega) [wkA,rtZ,sbZ,dC,ev,fiZ,pkZ,putAt,bnd,slD,gZ0,gZ1,dR_sl,Mem.cell,Mem.row,wmA,h2,h3]
              exact hq1 3 hv4 _ (oMm.trans o')
        · have hjj : j = es.length := by omega
          subst hjj
          have ijl : ¬ (es.length : Int) < (es.length : Int) := by omega
          have hz : chkF k es es.length = (0,0) := by
            cases k with
            | zero => rfl
            | succ k => simp only [chkF,List.getElem?_eq_none (Nat.le_refl _)]
          rw [hz] at hck
          rw [← hck] at hq
          simp -implicitDefEqProofs (disch := first | assumption | (simp only [wnA]; done) | (simp only [wnA]; omega) | omega) [wkA,rtZ,sbZ,dC,ev,fiZ,pkZ,putAt,bnd,slD,gZ0,gZ1,dR_sl,Mem.cell,Mem.row,wmA,ijl,rc9_9]
          exact hq m1 o1
end Go.Proofs.YtccjlggpiliilaaGreatDoor.Ab

set_option linter.unusedVariables false
set_option linter.unusedSimpArgs false
namespace Go.Proofs.YtccjlggpiliilaaGreatDoor.Ab
open Go Go.RowKit
set_option maxHeartbeats 4000000
set_option maxRecDepth 100000
theorem RdV.lay {X Y : Nat → Prop} {m M : Mem} {sz n : Nat} {v : Value} {cs : List Value} (h : RdV X m sz v cs n) (k : ∀ i,i < m.next → X i → M.get i = m.get i ∧ i < M.next ∧ Y i) : RdV Y M sz v cs n :=
  ⟨h.sl.keep fun b hb => (k b (h.bl b hb).1 (h.bl b hb).2).1,fun b hb => (k b (h.bl b hb).1 (h.bl b hb).2).2⟩
theorem TabV.lay {X Y : Nat → Prop} {m M : Mem} {it : Nat} {T : Tab} (h : TabV X m it T) (k : ∀ i,i < m.next → X i → M.get i = m.get i ∧ i < M.next ∧ Y i) : TabV Y M it T := by
  obtain ⟨sv,nv,fv,lv,rs,g,h1,h2,h3,h4,h5,h6⟩ := h.ex
  exact ⟨⟨sv,nv,fv,lv,rs,(k it h.lt.1 h.lt.2).1.trans g,h1.lay k,h2,h3.lay k,fun r hr => (h4 r hr).lay k,h5.lay k,h6.lay k⟩,(k it h.lt.1 h.lt.2).2,h.wf⟩
theorem WatV.lay {X Y : Nat → Prop} {m M : Mem} {iw ia : Nat} {ws : List WaE} {seen : Int} {over : Bool} (h : WatV X m iw ia ws seen over) (k : ∀ i,i < m.next → X i → M.get i = m.get i ∧ i < M.next ∧ Y i) (k1 : M.get iw = m.get iw ∧ iw < M.next) (k2 : M.get ia = m.get ia ∧ ia < M.next) (h1 : ¬ Y iw) (h2 : ¬ Y ia) (h3 : ∀ i,M.next ≤ i → Y i) : WatV Y M iw ia ws seen over := by
  obtain ⟨tv,g,r⟩ := h.g
  exact ⟨⟨tv,k1.1.trans g,r.lay k⟩,k2.1.trans h.ga,fun e he => ⟨(h.es e he).1.lay k,(h.es e he).2.1.lay k,(h.es e he).2.2⟩,⟨h1,h2,h.own.2.2.1,k1.2,k2.2⟩,h.l,h3⟩
theorem PlayV.lay {V V2 : List Nat} {m M : Mem} {ip : Nat} {sv : Value} {l : List DV} {s : PlS} (h : PlayV V m ip sv l s) (k : ∀ i,i < m.next → i ∉ V → M.get i = m.get i ∧ i < M.next ∧ i ∉ V2) (pt : Part L0 M) (hV2 : ∀ i ∈ V2,i < M.next) : PlayV V2 M ip sv l s := by
  have ho : ∀ i ∈ ownP ip s,M.get i = m.get i ∧ i < M.next ∧ i ∉ V2 := fun i hi => k i (h.lt i (List.mem_append_left _ hi)) (h.dj i hi)
  have kX : ∀ i,i < m.next → i ∉ ownP ip s ++ V → M.get i = m.get i ∧ i < M.next ∧ i ∉ ownP ip s ++ V2 := fun i hi hn => by
    have h1 : i ∉ ownP ip s ∧ i ∉ V := by simpa [List.mem_append,not_or] using hn
    have h2 := k i hi h1.2
    exact ⟨h2.1,h2.2.1,fun hm => (List.mem_append.1 hm).elim h1.1 h2.2.2⟩
  have hlt : ∀ i ∈ ownP ip s ++ V2,i < M.next := fun i hi => (List.mem_append.1 hi).elim (fun h1 => (ho i h1).2.1) (hV2 i)
  refine ⟨(ho ip (by simp [ownP])).1.trans h.g,⟨h.ds.sl.lay kX,fun x hx => (h.ds.ar x hx).lay kX⟩,?_,?_,fun w hw => ?_,h.nd,hlt,pt,h.lo,fun i hi => (ho i hi).2.2⟩
  · obtain ⟨es,c,g1,h2⟩ := h.mp
    exact ⟨es,c,(ho s.im (by simp [ownP])).1.trans g1,h2⟩
  · refine ⟨h.ot.1,?_⟩
    have h2 := h.ot.2
    cases hot : s.ot with
    | none => rw [hot] at h2; exact h2
    | some b =>
      rw [hot] at h2
      have := ho b (by simp [ownP,hot])
      exact ⟨this.1.trans h2.1,this.2.1⟩
  · have i1 : w.iw ∈ ownP ip s := by simp [ownP,hw]
    have i2 : w.ia ∈ ownP ip s := by simp [ownP,hw]
    exact (h.wt w hw).lay kX ⟨(ho _ i1).1,(ho _ i1).2.1⟩ ⟨(ho _ i2).1,(ho _ i2).2.1⟩ (fun hn => hn (List.mem_append_left _ i1)) (fun hn => hn (List.mem_append_left _ i2)) fun i hi hm => by have := hlt i hm; omega
noncomputable def restL (m : Mem) (H : HL) : List Nat := (List.range m.next).filter fun i => @decide (L0.n ≤ i ∧ ¬ ids H i) (Classical.propDecidable _)
theorem mem_rest {m : Mem} {H : HL} {i : Nat} : i ∈ restL m H ↔ i < m.next ∧ L0.n ≤ i ∧ ¬ ids H i := by
  simp only [restL,List.mem_filter,List.mem_range,decide_eq_true_eq]
noncomputable def newL (m m' : Mem) (H : HL) : HL := ((List.range m'.next).filter fun i => @decide (L0.n ≤ i ∧ (ids H i ∨ m.next ≤ i)) (Classical.propDecidable _)).map fun i => (some i,m'.get i)
theorem mem_new {m m' : Mem} {H : HL} {p : Option Nat × Ent} : p ∈ newL m m' H ↔ ∃ i,p = (some i,m'.get i) ∧ i < m'.next ∧ L0.n ≤ i ∧ (ids H i ∨ m.next ≤ i) := by
  unfold newL
  rw [List.mem_map]
  constructor
  · rintro ⟨i,hi,rfl⟩
    simp only [List.mem_filter,List.mem_range,decide_eq_true_eq] at hi
    exact ⟨i,rfl,hi.1,hi.2.1,hi.2.2⟩
  · rintro ⟨i,rfl,h1,h2,h3⟩
    exact ⟨i,by simp only [List.mem_filter,List.mem_range,decide_eq_true_eq]; exact ⟨h1,h2,h3⟩,rfl⟩
theorem ids_new {m m' : Mem} {H : HL} {i : Nat} (h1 : i < m'.next) (h2 : L0.n ≤ i) (h3 : ids H i ∨ m.next ≤ i) : (some i,m'.get i) ∈ newL m m' H := mem_new.2 ⟨i,rfl,h1,h2,h3⟩
theorem sep_new {V : Nat → Prop} {m m' : Mem} {H : HL} (h : Sep m V m H) (k : Keeps (fun i => ¬ ids H i) m m') (pt : Part L0 m') : Sep m V m' (newL m m' H) := by
  refine ⟨k.mono fun i hi hv hid => (h.il hid).2 hv,h.vl,h.gl,pt,?_,?_⟩
  · intro p hp i hi
    obtain ⟨j,rfl,h1,h2,h3⟩ := mem_new.1 hp
    cases hi
    refine ⟨rfl,h1,fun hv => ?_⟩
    rcases h3 with h3 | h3
    · exact (h.il h3).2 hv
    · have := h.vl i hv; omega
  · unfold newL
    rw [List.pairwise_map]
    refine (List.Pairwise.filter _ List.nodup_range).imp ?_
    intro a b hab k hk hb
    cases hk
    cases hb
    exact hab rfl
structure PlR (mb : Mem) (H : HL) (ip : Nat) (l : List DV) (s : PlS) : Prop where
  ex : ∃ V m sv,PlayV V m ip sv l s ∧ (∀ i,i < m.next → i ∉ V → i < L0.n ∨ (some i,m.get i) ∈ H) ∧ (∀ i,i < L0.n → m.get i = mb.get i)
def BaseK (mb m : Mem) : Prop := ∀ i,i < L0.n → m.get i = mb.get i
theorem Sep.base {V : Nat → Prop} {mb m : Mem} {l : HL} (h : Sep mb V m l) : BaseK mb m := fun i hi => h.k.2 i (h.vl i (h.gl i hi)) (h.gl i hi)
theorem PlR.toV {V : Nat → Prop} {mb m : Mem} {H : HL} {ip : Nat} {l : List DV} {s : PlS} (hR : PlR mb H ip l s) (h : Sep m V m H) (hb : BaseK mb m) : ∃ sv,PlayV (restL m H) m ip sv l s := by
  obtain ⟨V1,m1,sv,h1,h2,h3⟩ := hR.ex
  refine ⟨sv,h1.lay (fun i hi hn => ?_) h.pt fun i hi => (mem_rest.1 hi).1⟩
  rcases h2 i hi hn with h4 | h4
  · exact ⟨(hb i h4).trans (h3 i h4).symm,Nat.lt_of_lt_of_le h4 h.pt.1,fun hm => by have := (mem_rest.1 hm).2.1; omega⟩
  · have := h.ok _ h4 i rfl
    exact ⟨this.1,this.2.1,fun hm => (mem_rest.1 hm).2.2 ⟨_,h4,rfl⟩⟩
theorem plr_new {V : Nat → Prop} {mb m m' : Mem} {H : HL} {ip : Nat} {sv : Value} {l : List DV} {s' : PlS} (h : Sep m V m H) (hb : BaseK mb m') (hP : PlayV (restL m H) m' ip sv l s') : PlR mb (newL m m' H) ip l s' := by
  refine ⟨⟨_,_,_,hP,fun i hi hn => ?_,hb⟩⟩
  by_cases hg : i < L0.n
  · exact .inl hg
  · right
    refine ids_new hi (by omega) ?_
    by_cases hm : m.next ≤ i
    · exact .inr hm
    · left
      have hn2 : ¬ (i < m.next ∧ L0.n ≤ i ∧ ¬ ids H i) := fun h' => hn (mem_rest.2 h')
      by_cases hid : ids H i
      · exact hid
      · exact (hn2 ⟨by omega,by omega,hid⟩).elim
theorem own_ids {V : Nat → Prop} {m : Mem} {H : HL} {ip : Nat} {sv : Value} {l : List DV} {s : PlS} (hP : PlayV (restL m H) m ip sv l s) {i : Nat} (hi : i ∈ ownP ip s) : ids H i := by
  have h1 := hP.lt i (List.mem_append_left _ hi)
  have h2 := hP.lo i hi
  have h3 := hP.dj i hi
  by_cases hid : ids H i
  · exact hid
  · exact (h3 (mem_rest.2 ⟨h1,h2,hid⟩)).elim
theorem base_own {mb m m' : Mem} {H : HL} {ip : Nat} {sv : Value} {l : List DV} {s : PlS} (hP : PlayV (restL m H) m ip sv l s) (k : Keeps (fun i => i ∉ ownP ip s) m m') (hb : BaseK mb m) : BaseK mb m' := fun i hi => by
  rw [k.2 i (Nat.lt_of_lt_of_le hi hP.pt.1) fun hm => by have := hP.lo i hm; omega]
  exact hb i hi
theorem out_new {m m' : Mem} {H : HL} {oo : Option Nat} {out : List UInt8} (hp : Part L0 m) (hs : SlO m' 5 1 oo (out.map byteV) out.length) (hf : ∀ i,oo = some i → m.next ≤ i) : (oo = none → out.length = 0) ∧ ∀ i,oo = some i → (some i,Ent.own (out.map byteV) 5) ∈ newL m m' H := by
  refine ⟨fun e => by subst e; exact hs.2,fun i e => ?_⟩
  subst e
  have h2 := hs.2
  have h3 := hf i rfl
  have h4 := ids_new (m := m) (m' := m') (H := H) (i := i) h2.2 (by have := hp.1; omega) (.inr h3)
  rw [h2.1] at h4
  exact h4
theorem c_TickP {w0 : World} {V : Nat → Prop} {mb m : Mem} {H : HL} {ip : Nat} {l : List DV} {s : PlS} {G : List (List UInt8) → Prop} {P : List (List UInt8) → List (Tab × List Bool) → Prop} {J : PlS → Prop} {Q : Value → Mem → Prop} (h : Sep m V m H) (hb : BaseK mb m) (hR : PlR mb H ip l s) (hS : StepsOk w0 G P l) (hJ : SafeJ G P l J)
    (hs : s.st = 0 → s.wat ≠ none → 0 ≤ s.at_ ∧ ∃ x,l[s.at_.toNat]? = some x ∧ J { s with left := IntKind.i64.wrap (s.left - 1),wat := none,at_ := findN x.1.to l 0 })
    (hq : ∀ M H' s' out oo,TickR G P l s s' out → Sep m V M H' → PlR mb H' ip l s' → (oo = none → out.length = 0) → (∀ i,oo = some i → (some i,Ent.own (out.map byteV) 5) ∈ H') → Q (slV oo out.length 1) M) :
    AbC Tryz.prog w0 39 [.pointer (some ⟨ip,0,none⟩)] m Q := by
  obtain ⟨sv,hP⟩ := hR.toV h hb
  refine c_plTick hP hS hJ (fun i hi hl => by have := (mem_rest.1 hi).2.1; omega) hs fun M s' out oo hT hP' k hso hf ho => ?_
  have ho2 := out_new (H := H) h.pt hso hf
  exact hq M _ s' out oo hT (sep_new h (k.mono fun i _ hi hm => hi (own_ids (V := V) hP hm)) hP'.pt) (plr_new h (base_own hP k hb) hP') ho2.1 ho2.2
theorem c_PutP {w0 : World} {V : Nat → Prop} {mb m : Mem} {H : HL} {ip : Nat} {l : List DV} {s : PlS} {c : UInt8} {G : List (List UInt8) → Prop} {P : List (List UInt8) → List (Tab × List Bool) → Prop} {J : PlS → Prop} {Q : Value → Mem → Prop} (h : Sep m V m H) (hb : BaseK mb m) (hR : PlR mb H ip l s) (hS : StepsOk w0 G P l) (hJ : SafeJ G P l J) (htr : s.tr.length ≤ 1000000000)
    (hs : ∀ w,s.st = 0 → s.wat = some w → w.over = false → 0 ≤ bestC c w → 0 ≤ s.at_ ∧ ∃ x a,l[s.at_.toNat]? = some x ∧ x.1.arms[(bestC c w).toNat]? = some a ∧ ∀ o,J { s with wat := none,ot := some o,tr := s.tr ++ [bestC c w],at_ := findN a.to l 0 })
    (hq : ∀ M H' s' out oo,PutR G P l c s s' out → Sep m V M H' → PlR mb H' ip l s' → (oo = none → out.length = 0) → (∀ i,oo = some i → (some i,Ent.own (out.map byteV) 5) ∈ H') → Q (slV oo out.length 1) M) :
    AbC Tryz.prog w0 58 [.pointer (some ⟨ip,0,none⟩),.int .u8 (c.toNat : Int)] m Q := by
  obtain ⟨sv,hP⟩ := hR.toV h hb
  refine c_plPut hP hS hJ (fun i hi hl => by have := (mem_rest.1 hi).2.1; omega) htr hs fun M s' out oo hT hP' k hso hf ho => ?_
  have ho2 := out_new (H := H) h.pt hso hf
  exact hq M _ s' out oo hT (sep_new h (k.mono fun i _ hi hm => hi (own_ids (V := V) hP hm)) hP'.pt) (plr_new h (base_own hP k hb) hP') ho2.1 ho2.2
theorem c_StateP {w0 : World} {V : Nat → Prop} {mb m0 m : Mem} {L H : HL} {ip : Nat} {l : List DV} {s : PlS} {Q : Value → Mem → Prop} (h : Sep m0 V m L) (hH : ∀ p ∈ H,p ∈ L) (hb : BaseK mb m) (hR : PlR mb H ip l s) (hq : Q (.int .i64 s.st) m) : AbC Tryz.prog w0 51 [.pointer (some ⟨ip,0,none⟩)] m Q := by
  obtain ⟨V1,m1,sv,h1,h2,h3⟩ := hR.ex
  have hP : PlayV (restL m L) m ip sv l s := h1.lay (fun i hi hn => by
    rcases h2 i hi hn with h4 | h4
    · exact ⟨(hb i h4).trans (h3 i h4).symm,Nat.lt_of_lt_of_le h4 h.pt.1,fun hm => by have := (mem_rest.1 hm).2.1; omega⟩
    · have := h.ok _ (hH _ h4) i rfl
      exact ⟨this.1,this.2.1,fun hm => (mem_rest.1 hm).2.2 ⟨_,hH _ h4,rfl⟩⟩) h.pt fun i hi => (mem_rest.1 hi).1
  exact c_State hP hq
theorem c_POfP {w0 : World} {V : Nat → Prop} {mb m : Mem} {H : HL} {v : Value} {l : List DV} {G : List (List UInt8) → Prop} {P : List (List UInt8) → List (Tab × List Bool) → Prop} {J : PlS → Prop} {Q : Value → Mem → Prop} (h : Sep m V m H) (hb : BaseK mb m) (hx : DsX (ids H) m v l) (hS : StepsOk w0 G P l) (hJ : chkOk l → SafeJ G P l J ∧ ∀ im,J (pl0 im))
    (hgood : chkOk l → ∀ M H' ip im s' out oo,RunR G P l 0 (pl0 im) [] s' out → Sep m V M H' → PlR mb H' ip l s' → (oo = none → out.length = 0) → (∀ i,oo = some i → (some i,Ent.own (out.map byteV) 5) ∈ H') → Q (.tuple ⟨[.pointer (some ⟨ip,0,none⟩),slV oo out.length 1]⟩) M)
    (hbad : ¬ (chkOk l ∧ ∀ x ∈ l,x.1.kd = 1 → G (pats x.1)) → ∀ M H' ip im,Sep m V M H' → PlR mb H' ip l { pl0 im with st := 2 } → Q (.tuple ⟨[.pointer (some ⟨ip,0,none⟩),.slice none 0 0]⟩) M) :
    AbC Tryz.prog w0 31 [v] m Q := by
  have hV : ∀ i ∈ restL m H,i < m.next ∧ L0.n ≤ i := fun i hi => ⟨(mem_rest.1 hi).1,(mem_rest.1 hi).2.1⟩
  have hx2 : DsX (fun i => i ∉ restL m H) m v l := hx.mono fun i _ hi hm => (mem_rest.1 hm).2.2 hi
  have hbo : ∀ {M},Old m M → BaseK mb M := fun o i hi => (o.2 i (Nat.lt_of_lt_of_le hi h.pt.1)).trans (hb i hi)
  refine c_POfV h.pt hx2 hV hS hJ (fun hc M ip im sv s' out oo hr hP o _ hso hf => ?_) fun hn M ip im sv hP o _ _ => ?_
  · have ho2 := out_new (H := H) h.pt hso hf
    exact hgood hc M _ ip im s' out oo hr (sep_new h o.keeps hP.pt) (plr_new h (hbo o) hP) ho2.1 ho2.2
  · exact hbad hn M _ ip im (sep_new h o.keeps hP.pt) (plr_new h (hbo o) hP)
end Go.Proofs.YtccjlggpiliilaaGreatDoor.Ab

set_option linter.unusedVariables false
set_option linter.unusedSimpArgs false
namespace Go.Proofs.YtccjlggpiliilaaGreatDoor.Ab
open Go Go.RowKit
set_option maxHeartbeats 4000000
set_option maxRecDepth 100000
theorem Sep.selF {m0 m : Mem} {V : Nat → Prop} {F T : HL} (h : Sep m0 V m (F ++ T)) (is : List Nat) (hd : is.Nodup) : Sep m0 V m ((is.filterMap fun k => F[k]?) ++ T) := h.un (h.fr.sel is hd)
def riC (ib R at_ n : Nat) (lost : Int) : Ent := .own [.slice (some ⟨ib,0,none⟩) R 1,.int .i64 (at_ : Int),.int .i64 (n : Int),.int .i64 lost] 112
structure RiOk (R at_ : Nat) (bs q : List UInt8) : Prop where
  l : bs.length = R
  a : at_ < R
  r : R ≤ 4096
  n : q.length ≤ R
  e : ∀ j,j < q.length → bs[(at_ + j) % R]? = q[j]?
theorem modR {R a j : Nat} (ha : a < R) (hj : j < R) : (a + j) % R = if a + j < R then a + j else a + j - R := by
  split
  · rename_i h; exact Nat.mod_eq_of_lt h
  · rename_i h
    rw [Nat.mod_eq_sub_mod (by omega)]
    exact Nat.mod_eq_of_lt (by omega)
theorem RiOk.push {R a : Nat} {bs q : List UInt8} (h : RiOk R a bs q) (hn : q.length < R) (c : UInt8) : RiOk R a (bs.set ((a + q.length) % R) c) (q ++ [c]) := by
  have hl := h.l
  have ha := h.a
  refine ⟨by simp [hl],h.a,h.r,by simp; omega,fun j hj => ?_⟩
  simp only [List.length_append,List.length_singleton] at hj
  have hpos : (a + q.length) % R < bs.length := by rw [hl]; exact Nat.mod_lt _ (by omega)
  rcases Nat.lt_or_ge j q.length with h1 | h1
  · rw [List.getElem?_set_ne,List.getElem?_append_left h1]
    · exact h.e j h1
    · rw [modR ha hn,modR ha (by omega)]
      split <;> split <;> omega
  · have hj2 : j = q.length := by omega
    subst hj2
    rw [List.getElem?_set_self hpos]
    simp
theorem RiOk.pop {R a : Nat} {bs q : List UInt8} {c : UInt8} (h : RiOk R a bs (c :: q)) : bs[a]? = some c ∧ RiOk R ((a + 1) % R) bs q := by
  have ha := h.a
  have hn := h.n
  simp only [List.length_cons] at hn
  have h0 := h.e 0 (by simp)
  rw [Nat.add_zero,Nat.mod_eq_of_lt ha] at h0
  refine ⟨h0,h.l,Nat.mod_lt _ (by omega),h.r,by omega,fun j hj => ?_⟩
  have h1 := h.e (j + 1) (by simp; omega)
  rw [gZ1] at h1
  rw [← h1]
  congr 1
  rw [Nat.add_mod ((a + 1) % R),Nat.mod_mod,← Nat.add_mod]
  congr 1
  omega
theorem RiOk.new {R : Nat} (h1 : 1 ≤ R) (h2 : R ≤ 4096) : RiOk R 0 (List.replicate R 0) [] := ⟨by simp,by omega,h2,by simp,fun j hj => by simp at hj⟩
theorem c_riOf {w0 : World} {V : Nat → Prop} {m0 m : Mem} {l : HL} {R : Nat} {Q : Value → Mem → Prop} (h : Sep m0 V m l) (h1 : 1 ≤ R) (h2 : R ≤ 4096)
    (hq : ∀ M ir ib,Sep m0 V M ((some ir,riC ib R 0 0 0) :: (byH (some ib) (List.replicate R 0)) :: l) → Q (.pointer (some ⟨ir,0,none⟩)) M) : AbC Tryz.prog w0 27 [.int .i64 (R : Int)] m Q := by
  refine AbC_fn ok27 (by simp) ?_
  have hmn : (if (4096 : Int) < (R : Int) then (4096 : Int) else (R : Int)) = (R : Int) := by split <;> omega
  have hmx : (if (1 : Int) < (R : Int) then (R : Int) else (1 : Int)) = (R : Int) := by split <;> omega
  have hmx2 : (if (R : Int) < (1 : Int) then (1 : Int) else (R : Int)) = (R : Int) := by split <;> omega
  simp -implicitDefEqProofs (disch := first | assumption | omega) [rc27,ro27,wkB,rtZ,sbZ,dC,ev,fiZ,pkZ,putAt,bnd,slD,gZ0,gZ1,Mem.cell,Mem.row,coZ,crZ,hmn,hmx,hmx2]
  refine SK_mkS h (n := R) (by simp [wkB,rtZ,sbZ,dC,ev,fiZ,pkZ,putAt,bnd,slD,gZ0,gZ1,Mem.cell,Mem.row,coZ,crZ]) (by simp [wkB,rtZ,sbZ,dC,ev,fiZ,pkZ,putAt,bnd,slD,gZ0,gZ1,Mem.cell,Mem.row,coZ,crZ]) (by omega) (by unfold maxLen; omega) fun ib m1 h3 _ _ => ?_
  simp -implicitDefEqProofs (disch := first | assumption | omega) [wkB,rtZ,sbZ,dC,ev,fiZ,pkZ,putAt,bnd,slD,gZ0,gZ1,Mem.cell,Mem.row,coZ,crZ]
  refine SK_bxS h3 (cs := [.slice (some ⟨ib,0,none⟩) R 1,.int .i64 0,.int .i64 0,.int .i64 0]) (by simp [wkB,rtZ,sbZ,dC,ev,fiZ,pkZ,putAt,bnd,slD,gZ0,gZ1,Mem.cell,Mem.row,coZ,crZ]) fun ir m2 h4 _ _ => ?_
  simp -implicitDefEqProofs (disch := first | assumption | omega) [wkB,rtZ,sbZ,dC,ev,fiZ,pkZ,putAt,bnd,slD,gZ0,gZ1,Mem.cell,Mem.row,coZ,crZ]
  refine hq m2 ir ib ?_
  have e : (List.replicate R (Value.int .u8 0)) = (List.replicate R (0 : UInt8)).map byteV := by rw [List.map_replicate]; rfl
  rw [e] at h4
  exact h4
theorem c_riLost {w0 : World} {V : Nat → Prop} {m0 m : Mem} {l : HL} {ir ib R a n : Nat} {lost : Int} {Q : Value → Mem → Prop} (h : Sep m0 V m l) (q : Nat) (hl : l[q]? = some (some ir,riC ib R a n lost)) (hq : Q (.int .i64 lost) m) : AbC Tryz.prog w0 35 [.pointer (some ⟨ir,0,none⟩)] m Q := by
  refine AbC_fn ok35 (by simp) ?_
  have g := h.get q hl
  simp only [riC] at g
  simp -implicitDefEqProofs (disch := first | assumption | omega) [rc35,ro35,wkB,rtZ,sbZ,dC,ev,fiZ,pkZ,putAt,bnd,slD,gZ0,gZ1,Mem.cell,Mem.row,coZ,crZ,g]
  exact hq
theorem c_riTake {w0 : World} {V : Nat → Prop} {m : Mem} {ir ib R a : Nat} {lost : Int} {bs q : List UInt8} {Q : Value → Mem → Prop} (h : Sep m V m [(some ir,riC ib R a q.length lost),byH (some ib) bs]) (hO : RiOk R a bs q)
    (hq : ∀ M oo a',Sep m V M [byH oo q,(some ir,riC ib R a' 0 lost),byH (some ib) bs] → (oo = none → q.length = 0) → RiOk R a' bs [] → Q (slV oo q.length 1) M) : AbC Tryz.prog w0 37 [.pointer (some ⟨ir,0,none⟩),.int .i64 4096] m Q := by
  refine AbC_fn ok37 (by simp) ?_
  have g := h.get 0 rfl
  simp only [riC] at g
  have hn := hO.n
  have hR := hO.r
  have hRa := hO.a
  have hmn : (if (q.length : Int) < (4096 : Int) then (q.length : Int) else (4096 : Int)) = (q.length : Int) := by split <;> omega
  have hmn2 : (if (4096 : Int) < (q.length : Int) then (4096 : Int) else (q.length : Int)) = (q.length : Int) := by split <;> omega
  have hmx : (if (0 : Int) < (q.length : Int) then (q.length : Int) else (0 : Int)) = (q.length : Int) := by split <;> omega
  have hmx2 : (if (q.length : Int) < (0 : Int) then (0 : Int) else (q.length : Int)) = (q.length : Int) := by split <;> omega
  simp -implicitDefEqProofs (disch := first | assumption | omega) [rc37,ro37,wkB,rtZ,sbZ,dC,ev,fiZ,pkZ,putAt,bnd,slD,gZ0,gZ1,Mem.cell,Mem.row,coZ,crZ,g,hmn,hmn2,hmx,hmx2]
  refine LoopW_of (fun k ts m' => ∃ (j a' : Nat) (oo : Option Nat),j + k = q.length ∧ Sep m V m' [byH oo (q.take j),(some ir,riC ib R a' (q.drop j).length lost),byH (some ib) bs] ∧ RiOk R a' bs (q.drop j) ∧ (oo = none → (q.take j).length = 0) ∧ ts 0 = .pointer (some ⟨ir,0,none⟩) ∧ ts 5 = slV oo (q.take j).length 1 ∧ ts 12 = .int .i64 (q.length : Int) ∧ ts 13 = .int .i64 (j : Int)) q.length ?_ ?_
  · exact ⟨0,a,none,by omega,by simpa [byH] using h.non (.own [] 5),by simpa using hO,fun _ => by simp,by simp [frA_at],by simp [slV],(by simp; try (intro h; simp [h])),by simp⟩
  rintro k ts m1 K ⟨j,a',oo,hj,h1,hO1,hoo,t0,t5,t12,t13⟩ hK
  by_cases hjl : j < q.length
  · have hj8 : (j : Int) < (q.length : Int) := by omega
    have hjw : IntKind.i64.wrap ((j : Int) + 1) = (j : Int) + 1 := w64 (by omega)
    obtain ⟨c,hc⟩ : ∃ c,q[j] = c := ⟨_,rfl⟩
    have hdr : q.drop j = c :: q.drop (j + 1) := by rw [List.drop_eq_getElem_cons hjl,hc]
    rw [hdr] at hO1 h1
    have htk : q.take (j + 1) = q.take j ++ [c] := by rw [List.take_succ_eq_append_getElem hjl,hc]
    have htl : (q.take j).length = j := by rw [List.length_take]; omega
    obtain ⟨hb,hO2⟩ := hO1.pop
    have h1 : Sep m V m1 [byH oo (q.take j),(some ir,riC ib R a' ((q.drop (j + 1)).length + 1) lost),byH (some ib) bs] := h1
    have hDl : j + 1 + (q.drop (j + 1)).length = q.length := by rw [List.length_drop]; omega
    have hfin : ∀ {M o5},Sep m V M [byH o5 (q.take j ++ [c]),(some ir,riC ib R ((a' + 1) % R) (q.drop (j + 1)).length lost),byH (some ib) bs] → Sep m V M [byH o5 (q.take (j + 1)),(some ir,riC ib R ((a' + 1) % R) (q.drop (j + 1)).length lost),byH (some ib) bs] := fun h => by rw [htk]; exact h
    have hlen : (q.take (j + 1)).length = (q.take j).length + 1 := by rw [htk]; simp
    generalize q.take j = T at *
    generalize hDe : q.drop (j + 1) = D at *
    have hlb := hO1.l
    have haR := hO1.a
    have g1 := h1.get 1 rfl
    have g2 := h1.get 2 rfl
    simp only [riC] at g1
    obtain ⟨hlt2,hbe⟩ := List.getElem?_eq_some_iff.1 hb
    have hbm : (bs.map byteV)[a']? = some (.int .u8 (c.toNat : Int)) := by rw [List.getElem?_map,hb]; rfl
    have hidx : sidx 1 (.slice (some ⟨ib,0,none⟩) R 1) (.int .i64 (a' : Int)) = some (.pointer (some ⟨ib,a',none⟩)) := by simpa using sidx_at (b := ib) (o := 0) (n := R) (c := 1) (j := a') (sz := 1) (k := .i64) haR
    simp -implicitDefEqProofs (disch := first | assumption | omega) [rc37_1,rc37_0,wkB,rtZ,sbZ,dC,ev,fiZ,pkZ,putAt,bnd,slD,gZ0,gZ1,Mem.cell,Mem.row,coZ,crZ,t0,t5,t12,t13,hj8,g1,hidx,g2,getL1 hbm,hbe,hlt2]
    refine SK_bslS h1 (cs := ([c] : List UInt8).map byteV) (by simp [fiZ,pkZ,wkB,rtZ,sbZ,dC,ev,fiZ,pkZ,putAt,bnd,slD,gZ0,gZ1,Mem.cell,Mem.row,coZ,crZ,byteV,hbe]) rfl fun b4 m4 h4 _ _ => ?_
    have hO4 := (h4.slO 0 (k := 1) (sz := 1) rfl rfl (fun e => by cases e)).read
    simp -implicitDefEqProofs (disch := first | assumption | omega) [wkB,rtZ,sbZ,dC,ev,fiZ,pkZ,putAt,bnd,slD,gZ0,gZ1,Mem.cell,Mem.row,coZ,crZ,t5]
    refine SK_apS h4 1 (n := T.length) (k := 1) (ys := ([c] : List UInt8).map byteV) rfl (by simp [wkB,rtZ,sbZ,dC,ev,fiZ,pkZ,putAt,bnd,slD,gZ0,gZ1,Mem.cell,Mem.row,coZ,crZ,t5]) (by simp) hoo (by simp [wkB,rtZ,sbZ,dC,ev,fiZ,pkZ,putAt,bnd,slD,gZ0,gZ1,Mem.cell,Mem.row,coZ,crZ]; exact hO4.elems) (by simp [wkB,rtZ,sbZ,dC,ev,fiZ,pkZ,putAt,bnd,slD,gZ0,gZ1,Mem.cell,Mem.row,coZ,crZ]) (byteV_oneC _) (by omega) (by unfold maxLen; omega) rfl fun o5 m5 h5 hn5 _ => ?_
    rw [← List.map_append] at h5
    have h5 : Sep m V m5 [byH o5 (T ++ [c]),(some ir,riC ib R a' (D.length + 1) lost),byH (some ib) bs] := h5.tl
    have g5 := h5.get 1 rfl
    simp only [riC] at g5
    have wa : IntKind.i64.wrap ((a' : Int) + 1) = ((a' + 1 : Nat) : Int) := by rw [w64 (by omega)]; omega
    have wr : dBin .rem (.int .i64 ((a' : Int) + 1)) (.int .i64 (R : Int)) = some (.int .i64 (((a' + 1) % R : Nat) : Int)) := by
      have : dBin .rem (.int .i64 ((a' + 1 : Nat) : Int)) (.int .i64 (R : Int)) = some (.int .i64 (((a' + 1) % R : Nat) : Int)) := by
        rw [dBin_rem (by omega),Int.tmod_eq_emod_of_nonneg (by omega)]; rfl
      exact this
    have hsR : slen (.slice (some ⟨ib,0,none⟩) R 1) = some (.int .i64 (R : Int)) := rfl
    simp -implicitDefEqProofs (disch := first | assumption | omega) [wkB,rtZ,sbZ,dC,ev,fiZ,pkZ,putAt,bnd,slD,gZ0,gZ1,Mem.cell,Mem.row,coZ,crZ,t0,g5,wa,wr,hsR]
    refine SK_stS h5 1 rfl (o := 1) (vs := [.int .i64 (((a' + 1) % R : Nat) : Int)]) (cs' := [.slice (some ⟨ib,0,none⟩) R 1,.int .i64 (((a' + 1) % R : Nat) : Int),.int .i64 ((D.length + 1 : Nat) : Int),.int .i64 lost]) (by simp [wkB,rtZ,sbZ,dC,ev,fiZ,pkZ,putAt,bnd,slD,gZ0,gZ1,Mem.cell,Mem.row,coZ,crZ]) (by simp [wkB,rtZ,sbZ,dC,ev,fiZ,pkZ,putAt,bnd,slD,gZ0,gZ1,Mem.cell,Mem.row,coZ,crZ]) (by simp) rfl rfl rfl fun m6 h6 _ => ?_
    have g6 := h6.get 1 rfl
    have wn : IntKind.i64.wrap (((D.length + 1 : Nat) : Int) - 1) = (D.length : Int) := by rw [w64 (by omega)]; omega
    have wn2 : IntKind.i64.wrap ((D.length : Int) + 1 - 1) = (D.length : Int) := by rw [w64 (by omega)]; omega
    have wn3 : IntKind.i64.wrap (D.length : Int) = (D.length : Int) := w64 (by omega)
    simp -implicitDefEqProofs (disch := first | assumption | omega) [wkB,rtZ,sbZ,dC,ev,fiZ,pkZ,putAt,bnd,slD,gZ0,gZ1,Mem.cell,Mem.row,coZ,crZ,t0,g6,wn,wn2,wn3]
    refine SK_stS h6 1 rfl (o := 2) (vs := [.int .i64 (D.length : Int)]) (cs' := [.slice (some ⟨ib,0,none⟩) R 1,.int .i64 (((a' + 1) % R : Nat) : Int),.int .i64 (D.length : Int),.int .i64 lost]) (by simp [wkB,rtZ,sbZ,dC,ev,fiZ,pkZ,putAt,bnd,slD,gZ0,gZ1,Mem.cell,Mem.row,coZ,crZ]) (by simp [wkB,rtZ,sbZ,dC,ev,fiZ,pkZ,putAt,bnd,slD,gZ0,gZ1,Mem.cell,Mem.row,coZ,crZ]) (by simp) rfl rfl rfl fun m7 h7 _ => ?_
    simp -implicitDefEqProofs (disch := first | assumption | omega) [wkB,rtZ,sbZ,dC,ev,fiZ,pkZ,putAt,bnd,slD,gZ0,gZ1,Mem.cell,Mem.row,coZ,crZ,t13,hjw]
    subst hDe
    refine hK (k - 1) _ _ (by omega) ⟨j + 1,(a' + 1) % R,o5,by omega,hfin h7,hO2,fun e => by have := hn5 e; omega,by simp [t0],?_,by simp [t12],by simp⟩
    rw [hlen]
    simp
  · have hj2 : j = q.length := by omega
    subst hj2
    have hj8 : ¬ (q.length : Int) < (q.length : Int) := by omega
    rw [List.take_length] at h1 hoo t5
    rw [List.drop_length] at h1 hO1
    simp -implicitDefEqProofs (disch := first | assumption | omega) [rc37_1,rc37_2,wkB,rtZ,sbZ,dC,ev,fiZ,pkZ,putAt,bnd,slD,gZ0,gZ1,Mem.cell,Mem.row,coZ,crZ,t5,t12,t13,hj8]
    exact hq m1 oo a' h1 hoo hO1
end Go.Proofs.YtccjlggpiliilaaGreatDoor.Ab

set_option linter.unusedVariables false
set_option linter.unusedSimpArgs false
namespace Go.Proofs.YtccjlggpiliilaaGreatDoor.Ab
open Go Go.RowKit
set_option maxHeartbeats 4000000
set_option maxRecDepth 100000
theorem c_riPut {w0 : World} {V : Nat → Prop} {m : Mem} {ir ib R a f : Nat} {lost : Int} {bs q xs : List UInt8} {v : Value} {Q : Value → Mem → Prop} (h : Sep m V m [(some ir,riC ib R a q.length lost),byH (some ib) bs]) (hO : RiOk R a bs q)
    (hr : RdV V m 1 v (xs.map byteV) xs.length) (hx : xs.length ≤ 140737488355328) (hl : 0 ≤ lost ∧ lost ≤ 1000000000000000000) (hf : f = min xs.length (R - q.length))
    (hq : ∀ M bs',Sep m V M [(some ir,riC ib R a (q ++ xs.take f).length (lost + ((xs.length - f : Nat) : Int))),byH (some ib) bs'] → RiOk R a bs' (q ++ xs.take f) → Q (.int .i64 (f : Int)) M) :
    AbC Tryz.prog w0 34 [.pointer (some ⟨ir,0,none⟩),v] m Q := by
  refine AbC_fn ok34 (by simp) ?_
  have g := h.get 0 rfl
  simp only [riC] at g
  have hn := hO.n
  have hR := hO.r
  have hRa := hO.a
  obtain ⟨z,hz⟩ : ∃ z : Nat,z + q.length = R := ⟨R - q.length,by omega⟩
  have hzf : f = min xs.length z := by rw [hf]; congr 1; omega
  have hsub : IntKind.i64.wrap ((R : Int) - (q.length : Int)) = (z : Int) := by rw [w64 (by omega)]; omega
  have hmn : (if (z : Int) < (xs.length : Int) then (z : Int) else (xs.length : Int)) = (f : Int) := by split <;> omega
  have hmn2 : (if z < xs.length then (z : Int) else (xs.length : Int)) = (f : Int) := by split <;> omega
  have hsl := hr.sl.slen
  have hsR : slen (.slice (some ⟨ib,0,none⟩) R 1) = some (.int .i64 (R : Int)) := rfl
  obtain ⟨v2,hv2,hrv2,hbv2⟩ := hr.sl.upto (k := f) (by omega)
  rw [Nat.mul_one,← List.map_take] at hrv2
  obtain ⟨ys,hys⟩ : ∃ ys,xs.take f = ys := ⟨_,rfl⟩
  have hyl : ys.length = f := by rw [← hys,List.length_take]; omega
  rw [hys] at hrv2 hq
  have hr2 : RdV V m 1 v2 (ys.map byteV) f := ⟨hrv2,fun i hi => hr.bl i (hbv2 i hi)⟩
  have hsl2 := hr2.sl.slen
  simp -implicitDefEqProofs (disch := first | assumption | omega) [rc34,ro34,wkB,rtZ,sbZ,dC,ev,fiZ,pkZ,putAt,bnd,slD,gZ0,gZ1,Mem.cell,Mem.row,coZ,crZ,g,hsl,hsR,hsub,hmn,hmn2,hv2,hsl2]
  refine LoopW_of (fun k ts m' => ∃ (j : Nat) (bs' : List UInt8),j + k = f ∧ Sep m V m' [(some ir,riC ib R a (q.length + j) lost),byH (some ib) bs'] ∧ RiOk R a bs' (q ++ ys.take j) ∧ ts 0 = .pointer (some ⟨ir,0,none⟩) ∧ ts 1 = v ∧ ts 5 = .int .i64 (f : Int) ∧ ts 23 = v2 ∧ ts 24 = .int .i64 (f : Int) ∧ ts 25 = .int .i64 (j : Int)) f ?_ ?_
  · exact ⟨0,bs,by omega,h,by simpa using hO,by simp [frA_at],by simp [frA_at],by simp,by simp,by simp,by simp⟩
  rintro k ts m1 K ⟨j,bs',hj,h1,hO1,t0,t1,t5,t23,t24,t25⟩ hK
  have g1 := h1.get 0 rfl
  simp only [riC] at g1
  by_cases hjl : j < f
  · have hj8 : (j : Int) < (f : Int) := by omega
    have hjw : IntKind.i64.wrap ((j : Int) + 1) = (j : Int) + 1 := w64 (by omega)
    have hjy : j < ys.length := by omega
    obtain ⟨bi,bo,L,hvv,hL,hLl,-,hLc⟩ := (hr2.sep h1).sl.at hjl
    have hc := hLc 0 (by omega)
    simp only [Nat.mul_one,Nat.add_zero,List.getElem?_map,List.getElem?_eq_getElem hjy,Option.map_some] at hc
    obtain ⟨c,hcU⟩ : ∃ x,ys[j] = x := ⟨_,rfl⟩
    rw [hcU] at hc
    obtain ⟨hlt',hc'⟩ := List.getElem?_eq_some_iff.1 hc
    simp only [byteV] at hc hc'
    have hidx : sidx 1 v2 (.int .i64 (j : Int)) = some (.pointer (some ⟨bi,bo + j,none⟩)) := by rw [hvv]; simpa using sidx_at (b := bi) (o := bo) (n := f) (c := 1) (j := j) (sz := 1) (k := .i64) hjl
    have htk : ys.take (j + 1) = ys.take j ++ [c] := by rw [List.take_succ_eq_append_getElem hjy,hcU]
    have hql : (q ++ ys.take j).length = q.length + j := by rw [List.length_append,List.length_take]; omega
    have hO2 := hO1.push (by rw [hql]; omega) c
    rw [hql,List.append_assoc,← htk] at hO2
    have hbl := hO1.l
    obtain ⟨p,hp⟩ : ∃ p,(a + (q.length + j)) % R = p := ⟨_,rfl⟩
    have hpR : p < R := by rw [← hp]; exact Nat.mod_lt _ (by omega)
    have hwa : IntKind.i64.wrap ((a : Int) + ((q.length : Int) + (j : Int))) = (a : Int) + ((q.length : Int) + (j : Int)) := w64 (by omega)
    have hrem : dBin .rem (.int .i64 ((a : Int) + ((q.length : Int) + (j : Int)))) (.int .i64 (R : Int)) = some (.int .i64 (p : Int)) := by
      have : dBin .rem (.int .i64 ((a + (q.length + j) : Nat) : Int)) (.int .i64 (R : Int)) = some (.int .i64 (((a + (q.length + j)) % R : Nat) : Int)) := by
        rw [dBin_rem (by omega),Int.tmod_eq_emod_of_nonneg (by omega)]; rfl
      rw [hp] at this
      simpa using this
    have hidj : sidx 1 (.slice (some ⟨ib,0,none⟩) R 1) (.int .i64 (p : Int)) = some (.pointer (some ⟨ib,p,none⟩)) := by simpa using sidx_at (b := ib) (o := 0) (n := R) (c := 1) (j := p) (sz := 1) (k := .i64) hpR
    rw [hp] at hO2
    simp -implicitDefEqProofs (disch := first | assumption | omega) [rc34_1,rc34_0,wkB,rtZ,sbZ,dC,ev,fiZ,pkZ,putAt,bnd,slD,gZ0,gZ1,Mem.cell,Mem.row,coZ,crZ,t0,t23,t24,t25,hj8,hidx,hL,hc,hc',getL1 hc,g1,hsR,hwa,hrem,hidj]
    refine SK_stS h1 1 rfl (o := p) (vs := [byteV c]) (cs' := (bs'.set p c).map byteV) (by simp [wkB,rtZ,sbZ,dC,ev,fiZ,pkZ,putAt,bnd,slD,gZ0,gZ1,Mem.cell,Mem.row,coZ,crZ]) (by simp [wkB,rtZ,sbZ,dC,ev,fiZ,pkZ,putAt,bnd,slD,gZ0,gZ1,Mem.cell,Mem.row,coZ,crZ,byteV]) (by simp; omega) rfl rfl (by
      rw [List.map_set,List.set_eq_take_append_cons_drop,if_pos (by simp; omega)]
      simp [putAt]) fun m2 h2 _ => ?_
    have g2 := h2.get 0 rfl
    simp only [riC] at g2
    have hwn : IntKind.i64.wrap ((q.length : Int) + (j : Int) + 1) = (q.length : Int) + (j : Int) + 1 := w64 (by omega)
    simp -implicitDefEqProofs (disch := first | assumption | omega) [wkB,rtZ,sbZ,dC,ev,fiZ,pkZ,putAt,bnd,slD,gZ0,gZ1,Mem.cell,Mem.row,coZ,crZ,t0,g2,hwn]
    refine SK_stS h2 0 rfl (o := 2) (vs := [.int .i64 ((q.length : Int) + (j : Int) + 1)]) (cs' := [.slice (some ⟨ib,0,none⟩) R 1,.int .i64 (a : Int),.int .i64 ((q.length + (j + 1) : Nat) : Int),.int .i64 lost]) (by simp [wkB,rtZ,sbZ,dC,ev,fiZ,pkZ,putAt,bnd,slD,gZ0,gZ1,Mem.cell,Mem.row,coZ,crZ]) (by simp [wkB,rtZ,sbZ,dC,ev,fiZ,pkZ,putAt,bnd,slD,gZ0,gZ1,Mem.cell,Mem.row,coZ,crZ]) (by simp) rfl rfl (by simp [putAt]; omega) fun m3 h3 _ => ?_
    simp -implicitDefEqProofs (disch := first | assumption | omega) [wkB,rtZ,sbZ,dC,ev,fiZ,pkZ,putAt,bnd,slD,gZ0,gZ1,Mem.cell,Mem.row,coZ,crZ,t25,hjw]
    exact hK (k - 1) _ _ (by omega) ⟨j + 1,bs'.set p c,by omega,h3,hO2,by simp [t0],by simp [t1],by simp [t5],by simp [t23],by simp [t24],by simp⟩
  · have hj2 : j = f := by omega
    have hj8 : ¬ (j : Int) < (f : Int) := by omega
    have htk : ys.take j = ys := List.take_of_length_le (by omega)
    rw [htk] at hO1
    have hql : q.length + j = (q ++ ys).length := by rw [List.length_append]; omega
    rw [hql] at h1
    have hs1 : IntKind.i64.wrap ((xs.length : Int) - (f : Int)) = ((xs.length - f : Nat) : Int) := by rw [w64 (by omega)]; omega
    have hs2 : IntKind.i64.wrap (lost + ((xs.length - f : Nat) : Int)) = lost + ((xs.length - f : Nat) : Int) := w64 (by omega)
    generalize ((xs.length - f : Nat) : Int) = y at *
    simp -implicitDefEqProofs (disch := first | assumption | omega) [rc34_1,rc34_2,wkB,rtZ,sbZ,dC,ev,fiZ,pkZ,putAt,bnd,slD,gZ0,gZ1,Mem.cell,Mem.row,coZ,crZ,t0,t1,t5,t24,t25,hj8,g1,hsl,hs1,hs2]
    refine SK_stS h1 0 rfl (o := 3) (vs := [.int .i64 (lost + y)]) (cs' := [.slice (some ⟨ib,0,none⟩) R 1,.int .i64 (a : Int),.int .i64 ((q ++ ys).length : Int),.int .i64 (lost + y)]) (by simp [wkB,rtZ,sbZ,dC,ev,fiZ,pkZ,putAt,bnd,slD,gZ0,gZ1,Mem.cell,Mem.row,coZ,crZ]) (by simp [wkB,rtZ,sbZ,dC,ev,fiZ,pkZ,putAt,bnd,slD,gZ0,gZ1,Mem.cell,Mem.row,coZ,crZ]) (by simp) rfl rfl rfl fun m2 h2 _ => ?_
    simp -implicitDefEqProofs (disch := first | assumption | omega) [wkB,rtZ,sbZ,dC,ev,fiZ,pkZ,putAt,bnd,slD,gZ0,gZ1,Mem.cell,Mem.row,coZ,crZ,t5]
    exact hq m2 bs' h2 hO1
end Go.Proofs.YtccjlggpiliilaaGreatDoor.Ab

set_option linter.unusedVariables false
set_option linter.unusedSimpArgs false
namespace Go.Proofs.YtccjlggpiliilaaGreatDoor.Ab
open Go Go.RowKit
set_option maxHeartbeats 4000000
set_option maxRecDepth 100000
structure De where
  md : Int
  n : Nat
  sg : List (Int × Nat × Nat)
def segC (s : Int × Nat × Nat) : List Value := [.int .i64 s.1,.int .i64 (s.2.1 : Int),.int .i64 (s.2.2 : Int)]
def deC (os : Option Nat) (d : De) : Ent := .own [.int .i64 d.md,.int .i64 (d.n : Int),slV os d.sg.length 3] 115
def sgH (os : Option Nat) (d : De) : Option Nat × Ent := (os,.own (d.sg.flatMap segC) 185)
def dePutF (d : De) : De :=
  match d.sg.getLast? with
  | some x => if x.1 = d.md then { d with n := d.n + 1,sg := d.sg.dropLast ++ [(x.1,x.2.1,x.2.2 + 1)] } else { d with n := d.n + 1,sg := d.sg ++ [(d.md,d.n,1)] }
  | none => { d with n := d.n + 1,sg := d.sg ++ [(d.md,d.n,1)] }
structure DeW (os : Option Nat) (d : De) : Prop where
  o : os = none → d.sg.length = 0
  l : d.sg.length ≤ d.n
  s : ∀ x ∈ d.sg,x.2.2 ≤ d.n
theorem segC_len (s : Int × Nat × Nat) : (segC s).length = 3 := rfl
theorem seg_flat_len (l : List (Int × Nat × Nat)) : (l.flatMap segC).length = l.length * 3 := by
  induction l with
  | nil => rfl
  | cons x l ih => simp only [List.flatMap_cons,List.length_append,segC_len,ih,List.length_cons]; omega
theorem seg_get : ∀ (l : List (Int × Nat × Nat)) (k : Nat) (x : Int × Nat × Nat) (i : Nat),l[k]? = some x → i < 3 → (l.flatMap segC)[k * 3 + i]? = (segC x)[i]?
  | [],k,x,i,h,_ => by simp at h
  | y :: l,0,x,i,h,hi => by
    simp only [gZ0,Option.some.injEq] at h
    subst h
    rw [List.flatMap_cons,List.getElem?_append_left (by rw [segC_len]; omega)]
    congr 1; omega
  | y :: l,k + 1,x,i,h,hi => by
    rw [gZ1] at h
    rw [List.flatMap_cons,List.getElem?_append_right (by rw [segC_len]; omega),segC_len,show (k + 1) * 3 + i - 3 = k * 3 + i by omega]
    exact seg_get l k x i h hi
theorem putAt_pre (a l vs : List Value) (o : Nat) : putAt (a ++ l) (a.length + o) vs = a ++ putAt l o vs := by
  unfold putAt
  rw [List.take_append,List.drop_append,List.take_of_length_le (by omega),List.drop_of_length_le (by omega),List.nil_append,show a.length + o - a.length = o by omega,show a.length + o + vs.length - a.length = o + vs.length by omega]
  simp
theorem put_seg : ∀ (l : List (Int × Nat × Nat)) (k : Nat) (x : Int × Nat × Nat) (z : Nat),l[k]? = some x → putAt (l.flatMap segC) (k * 3 + 2) [.int .i64 (z : Int)] = (l.set k (x.1,x.2.1,z)).flatMap segC
  | [],k,x,z,h => by simp at h
  | y :: l,0,x,z,h => by
    simp only [gZ0,Option.some.injEq] at h
    subst h
    simp [segC,putAt]
  | y :: l,k + 1,x,z,h => by
    rw [gZ1] at h
    rw [List.flatMap_cons,List.set_cons_succ,List.flatMap_cons,← put_seg l k x z h,show (k + 1) * 3 + 2 = (segC y).length + (k * 3 + 2) by rw [segC_len]; omega,putAt_pre]
theorem c_deSw {w0 : World} {V : Nat → Prop} {m0 m : Mem} {l : HL} {id : Nat} {os : Option Nat} {d : De} {md : Int} {Q : Value → Mem → Prop} (h : Sep m0 V m l) (q : Nat) (hl : l[q]? = some (some id,deC os d)) (hmd : md = 0 ∨ md = 1 ∨ md = 2)
    (hq : ∀ M,Sep m0 V M (l.set q (some id,deC os { d with md := md })) → Q (.tuple ⟨[]⟩) M) : AbC Tryz.prog w0 49 [.pointer (some ⟨id,0,none⟩),.int .i64 md] m Q := by
  refine AbC_fn ok49 (by simp) ?_
  rcases hmd with rfl | rfl | rfl
  all_goals
    simp -implicitDefEqProofs (disch := first | assumption | omega) [rc49,ro49,wkB,rtZ,sbZ,dC,ev,fiZ,pkZ,putAt,bnd,slD,gZ0,gZ1,Mem.cell,Mem.row,coZ,crZ]
    refine SK_stS h q hl (o := 0) (vs := [.int .i64 _]) (cs' := [.int .i64 _,.int .i64 (d.n : Int),slV os d.sg.length 3]) (by simp [wkB,rtZ,sbZ,dC,ev,fiZ,pkZ,putAt,bnd,slD,gZ0,gZ1,Mem.cell,Mem.row,coZ,crZ]) (by simp [wkB,rtZ,sbZ,dC,ev,fiZ,pkZ,putAt,bnd,slD,gZ0,gZ1,Mem.cell,Mem.row,coZ,crZ]; rfl) (by simp) rfl rfl (by simp [putAt]; rfl) fun m1 h1 _ => ?_
    simp -implicitDefEqProofs (disch := first | assumption | omega) [wkB,rtZ,sbZ,dC,ev,fiZ,pkZ,putAt,bnd,slD,gZ0,gZ1,Mem.cell,Mem.row,coZ,crZ]
    exact hq m1 h1
theorem c_deOf {w0 : World} {V : Nat → Prop} {m0 m : Mem} {l : HL} {md : Int} {Q : Value → Mem → Prop} (h : Sep m0 V m l) (hmd : md = 0 ∨ md = 1 ∨ md = 2)
    (hq : ∀ M id,Sep m0 V M ((some id,deC none ⟨md,0,[]⟩) :: l) → Q (.pointer (some ⟨id,0,none⟩)) M) : AbC Tryz.prog w0 28 [.int .i64 md] m Q := by
  refine AbC_fn ok28 (by simp) ?_
  simp -implicitDefEqProofs (disch := first | assumption | omega) [rc28,ro28,wkB,rtZ,sbZ,dC,ev,fiZ,pkZ,putAt,bnd,slD,gZ0,gZ1,Mem.cell,Mem.row,coZ,crZ]
  refine SK_bxS h (cs := [.int .i64 0,.int .i64 0,.slice none 0 0]) (by simp [wkB,rtZ,sbZ,dC,ev,fiZ,pkZ,putAt,bnd,slD,gZ0,gZ1,Mem.cell,Mem.row,coZ,crZ]) fun id m1 h1 _ _ => ?_
  simp -implicitDefEqProofs (disch := first | assumption | omega) [wkB,rtZ,sbZ,dC,ev,fiZ,pkZ,putAt,bnd,slD,gZ0,gZ1,Mem.cell,Mem.row,coZ,crZ]
  refine c_deSw (d := ⟨0,0,[]⟩) (os := none) h1 0 rfl hmd fun m2 h2 => ?_
  simp -implicitDefEqProofs (disch := first | assumption | omega) [wkB,rtZ,sbZ,dC,ev,fiZ,pkZ,putAt,bnd,slD,gZ0,gZ1,Mem.cell,Mem.row,coZ,crZ]
  exact hq m2 id h2
theorem c_dePut {w0 : World} {V : Nat → Prop} {m : Mem} {id : Nat} {os : Option Nat} {d : De} {c : Value} {Q : Value → Mem → Prop} (h : Sep m V m [(some id,deC os d),sgH os d]) (hw : DeW os d) (hn : d.n ≤ 1000000000000)
    (hq : ∀ M os',Sep m V M [(some id,deC os' (dePutF d)),sgH os' (dePutF d)] → DeW os' (dePutF d) → Q (.int .i64 d.md) M) : AbC Tryz.prog w0 57 [.pointer (some ⟨id,0,none⟩),c] m Q := by
  refine AbC_fn ok57 (by simp) ?_
  obtain ⟨md,n,sg⟩ := d
  have hwl := hw.l
  simp only at hwl hn
  -- behind the row's growth: the last one grows
  have key : ∀ (fr : Fr) (M : Mem) (o2 : Option Nat) (sg2 : List (Int × Nat × Nat)) (k : Nat) (x : Int × Nat × Nat),Sep m V M [(some id,deC o2 ⟨md,n,sg2⟩),sgH o2 ⟨md,n,sg2⟩] → sg2[k]? = some x → x.2.2 ≤ n → (o2 = none → sg2.length = 0) → fr 0 = .pointer (some ⟨id,0,none⟩) → fr 5 = .int .i64 (k : Int) →
      (∀ M',Sep m V M' [(some id,deC o2 ⟨md,n + 1,sg2.set k (x.1,x.2.1,x.2.2 + 1)⟩),sgH o2 ⟨md,n + 1,sg2.set k (x.1,x.2.1,x.2.2 + 1)⟩] → Q (.int .i64 md) M') → AbW Tryz.prog w0 rc57_0 (bodyA [.mv (.tmp 4)] Q) fr M := by
    intro fr M o2 sg2 k x hM hk hxn ho2 t0 t5 hQ
    obtain ⟨hkl,-⟩ := List.getElem?_eq_some_iff.1 hk
    obtain ⟨ob,rfl⟩ : ∃ ob,o2 = some ob := by
      cases o2 with
      | none => have := ho2 rfl; omega
      | some b => exact ⟨b,rfl⟩
    have g0 := hM.get 0 rfl
    have g1 := hM.get 1 rfl
    simp only [deC] at g0
    have hfl := seg_flat_len sg2
    have hc := seg_get sg2 k x 2 hk (by omega)
    have hc : (sg2.flatMap segC)[k * 3 + 2]? = some (.int .i64 (x.2.2 : Int)) := hc
    have hidx : sidx 3 (slV (some ob) sg2.length 3) (.int .i64 (k : Int)) = some (.pointer (some ⟨ob,k * 3,none⟩)) := by simpa [slV] using sidx_at (b := ob) (o := 0) (n := sg2.length) (c := 3) (j := k) (sz := 3) (k := .i64) hkl
    have w1 : IntKind.i64.wrap ((x.2.2 : Int) + 1) = ((x.2.2 + 1 : Nat) : Int) := by rw [w64 (by omega)]; omega
    have w2 : IntKind.i64.wrap ((n : Int) + 1) = ((n + 1 : Nat) : Int) := by rw [w64 (by omega)]; omega
    simp -implicitDefEqProofs (disch := first | assumption | omega) [rc57_0,wkB,rtZ,sbZ,dC,ev,fiZ,pkZ,putAt,bnd,slD,gZ0,gZ1,Mem.cell,Mem.row,coZ,crZ,t0,t5,g0,hidx,g1,hc,getL1 hc,w1]
    refine SK_stS hM 1 rfl (o := k * 3 + 2) (vs := [.int .i64 ((x.2.2 + 1 : Nat) : Int)]) (cs' := (sg2.set k (x.1,x.2.1,x.2.2 + 1)).flatMap segC) (by simp [wkB,rtZ,sbZ,dC,ev,fiZ,pkZ,putAt,bnd,slD,gZ0,gZ1,Mem.cell,Mem.row,coZ,crZ]) (by simp [wkB,rtZ,sbZ,dC,ev,fiZ,pkZ,putAt,bnd,slD,gZ0,gZ1,Mem.cell,Mem.row,coZ,crZ]) (by rw [hfl]; omega) rfl rfl (put_seg sg2 k x _ hk) fun m2 h2 _ => ?_
    have g2 := h2.get 0 rfl
    simp only [deC] at g2
    simp -implicitDefEqProofs (disch := first | assumption | omega) [wkB,rtZ,sbZ,dC,ev,fiZ,pkZ,putAt,bnd,slD,gZ0,gZ1,Mem.cell,Mem.row,coZ,crZ,t0,g2,w2]
    refine SK_stS h2 0 rfl (o := 1) (vs := [.int .i64 ((n + 1 : Nat) : Int)]) (cs' := [.int .i64 md,.int .i64 ((n + 1 : Nat) : Int),slV (some ob) sg2.length 3]) (by simp [wkB,rtZ,sbZ,dC,ev,fiZ,pkZ,putAt,bnd,slD,gZ0,gZ1,Mem.cell,Mem.row,coZ,crZ]) (by simp [wkB,rtZ,sbZ,dC,ev,fiZ,pkZ,putAt,bnd,slD,gZ0,gZ1,Mem.cell,Mem.row,coZ,crZ]) (by simp) rfl rfl rfl fun m3 h3 _ => ?_
    have g3 := h3.get 0 rfl
    simp -implicitDefEqProofs (disch := first | assumption | omega) [wkB,rtZ,sbZ,dC,ev,fiZ,pkZ,putAt,bnd,slD,gZ0,gZ1,Mem.cell,Mem.row,coZ,crZ,t0,g3]
    refine hQ m3 ?_
    have hl2 : (sg2.set k (x.1,x.2.1,x.2.2 + 1)).length = sg2.length := List.length_set
    simp only [deC,sgH,hl2]
    exact h3
  have g0 := h.get 0 rfl
  simp only [deC] at g0
  have hsl := (h.slO 1 (k := sg.length) (sz := 3) rfl (seg_flat_len sg) hw.o).slen
  have hwk : IntKind.i64.wrap ((sg.length : Int) - 1) = (sg.length : Int) - 1 := w64 (by omega)
  -- the row grows
  have grow : ∀ (fr : Fr),fr 0 = .pointer (some ⟨id,0,none⟩) → ∀ m2 o2,Sep m V m2 [(some id,deC o2 ⟨md,n,sg ++ [(md,n,0)]⟩),sgH o2 ⟨md,n,sg ++ [(md,n,0)]⟩] → (o2 = none → sg.length + 1 = 0) → fr 5 = .int .i64 (sg.length : Int) →
      (dePutF ⟨md,n,sg⟩ = ⟨md,n + 1,sg ++ [(md,n,1)]⟩) → AbW Tryz.prog w0 rc57_0 (bodyA [.mv (.tmp 4)] Q) fr m2 := by
    intro fr t0 m2 o2 h2 ho2 t5 hF
    refine key fr m2 o2 _ sg.length (md,n,0) h2 (by simp) (by simp) (fun e => by have := ho2 e; omega) t0 t5 fun M' hM' => ?_
    have e : (sg ++ [(md,n,0)]).set sg.length (md,n,1) = sg ++ [(md,n,1)] := by simp
    have hM' : Sep m V M' [(some id,deC o2 ⟨md,n + 1,sg ++ [(md,n,1)]⟩),sgH o2 ⟨md,n + 1,sg ++ [(md,n,1)]⟩] := by rw [← e]; exact hM'
    rw [hF] at hq
    refine hq M' o2 hM' ⟨fun e => by have := ho2 e; omega,by simp; omega,fun x hx => ?_⟩
    simp only [List.mem_append,List.mem_singleton] at hx
    rcases hx with hx | rfl
    · have := hw.s x hx; simp only at this ⊢; omega
    · simp
  have app : ∀ (fr : Fr) (R : Fr → Mem → Prop) (oc : Operand) (t : Nat),True := fun _ _ _ _ => trivial
  cases hlast : sg.getLast? with
  | none =>
    have hnil : sg = [] := List.getLast?_eq_none_iff.1 hlast
    subst hnil
    have hF : dePutF ⟨md,n,[]⟩ = ⟨md,n + 1,[(md,n,1)]⟩ := rfl
    have hsl0 : slen (slV os 0 3) = some (.int .i64 0) := hsl
    have g0 : m.get id = .own [.int .i64 md,.int .i64 (n : Int),slV os 0 3] 115 := g0
    have y1 : IntKind.i64.wrap (-1) = -1 := rfl
    have y2 : IntKind.i64.wrap (0 - 1) = -1 := rfl
    have y3 : IntKind.i64.wrap (-1 + 1) = 0 := rfl
    have y4 : IntKind.i64.wrap 0 = 0 := rfl
    simp -implicitDefEqProofs (disch := first | assumption | omega) [rc57,ro57,wkB,rtZ,sbZ,dC,ev,fiZ,pkZ,putAt,bnd,slD,gZ0,gZ1,Mem.cell,Mem.row,coZ,crZ,g0,hsl0,y1,y2]
    refine SK_bslS h (cs := segC (md,n,0)) (by simp [fiZ,pkZ,wkB,rtZ,sbZ,dC,ev,fiZ,pkZ,putAt,bnd,slD,gZ0,gZ1,Mem.cell,Mem.row,coZ,crZ,segC]) rfl fun b4 m4 h4 _ _ => ?_
    have hO4 := (h4.slO 0 (k := 1) (sz := 3) rfl rfl (fun e => by cases e)).read
    have g4 := h4.get 1 rfl
    simp only [deC] at g4
    simp -implicitDefEqProofs (disch := first | assumption | omega) [wkB,rtZ,sbZ,dC,ev,fiZ,pkZ,putAt,bnd,slD,gZ0,gZ1,Mem.cell,Mem.row,coZ,crZ,g4]
    refine SK_apS h4 2 (n := 0) (k := 1) (ys := segC (md,n,0)) rfl (by simp [wkB,rtZ,sbZ,dC,ev,fiZ,pkZ,putAt,bnd,slD,gZ0,gZ1,Mem.cell,Mem.row,coZ,crZ]) rfl (fun _ => rfl) (by simp [wkB,rtZ,sbZ,dC,ev,fiZ,pkZ,putAt,bnd,slD,gZ0,gZ1,Mem.cell,Mem.row,coZ,crZ]; exact hO4.elems) (by simp [wkB,rtZ,sbZ,dC,ev,fiZ,pkZ,putAt,bnd,slD,gZ0,gZ1,Mem.cell,Mem.row,coZ,crZ]) rfl (by omega) (by unfold maxLen; omega) rfl fun o5 m5 h5 hn5 _ => ?_
    simp -implicitDefEqProofs (disch := first | assumption | omega) [wkB,rtZ,sbZ,dC,ev,fiZ,pkZ,putAt,bnd,slD,gZ0,gZ1,Mem.cell,Mem.row,coZ,crZ]
    refine SK_stS h5 1 rfl (o := 2) (vs := [slV o5 1 3]) (cs' := [.int .i64 md,.int .i64 (n : Int),slV o5 1 3]) (by simp [wkB,rtZ,sbZ,dC,ev,fiZ,pkZ,putAt,bnd,slD,gZ0,gZ1,Mem.cell,Mem.row,coZ,crZ]) (by simp [wkB,rtZ,sbZ,dC,ev,fiZ,pkZ,putAt,bnd,slD,gZ0,gZ1,Mem.cell,Mem.row,coZ,crZ]) (by simp) rfl (by simp [oneC_slV]) rfl fun m6 h6 _ => ?_
    simp -implicitDefEqProofs (disch := first | assumption | omega) [wkB,rtZ,sbZ,dC,ev,fiZ,pkZ,putAt,bnd,slD,gZ0,gZ1,Mem.cell,Mem.row,coZ,crZ,y3,y4]
    exact grow _ (by simp [frA_at]) m6 o5 h6.tl (fun e => by have := hn5 e; omega) (by simp) hF
  | some x =>
    have hne : sg ≠ [] := fun e => by rw [e] at hlast; cases hlast
    have hpos : 0 < sg.length := List.length_pos_iff.2 hne
    obtain ⟨k,hk⟩ : ∃ k,sg.length = k + 1 := ⟨sg.length - 1,by omega⟩
    have hkx : sg[k]? = some x := by rw [← hlast,List.getLast?_eq_getElem?,hk]; rfl
    obtain ⟨ob,rfl⟩ : ∃ ob,os = some ob := by
      cases os with
      | none => have := hw.o rfl; simp only at this; omega
      | some b => exact ⟨b,rfl⟩
    have g1 := h.get 1 rfl
    have hc := seg_get sg k x 0 hkx (by omega)
    rw [Nat.add_zero] at hc
    have hc : (sg.flatMap segC)[k * 3]? = some (.int .i64 x.1) := hc
    have hidx : sidx 3 (slV (some ob) sg.length 3) (.int .i64 (k : Int)) = some (.pointer (some ⟨ob,k * 3,none⟩)) := by simpa [slV] using sidx_at (b := ob) (o := 0) (n := sg.length) (c := 3) (j := k) (sz := 3) (k := .i64) (by omega)
    have hwk2 : IntKind.i64.wrap ((sg.length : Int) - 1) = (k : Int) := by rw [hwk]; omega
    have hk0 : ¬ ((k : Int) < 0) := by omega
    have hxs := hw.s x (List.mem_of_getElem? hkx)
    simp only at hxs
    by_cases hmd : x.1 = md
    · have hF : dePutF ⟨md,n,sg⟩ = ⟨md,n + 1,sg.set k (x.1,x.2.1,x.2.2 + 1)⟩ := by
        unfold dePutF
        simp only [hlast,if_pos hmd]
        congr 1
        obtain ⟨ys,hy⟩ := List.getLast?_eq_some_iff.1 hlast
        have hyk : ys.length = k := by rw [hy] at hk; simp at hk; exact hk
        rw [hy,← hyk]
        simp
      have hne1 : (x.1 != md) = false := by simp [hmd]
      simp -implicitDefEqProofs (disch := first | assumption | omega) [rc57,ro57,wkB,rtZ,sbZ,dC,ev,fiZ,pkZ,putAt,bnd,slD,gZ0,gZ1,Mem.cell,Mem.row,coZ,crZ,g0,hsl,hwk2,hk0,hidx,g1,hc,getL1 hc,hne1,hmd]
      refine key _ m (some ob) sg k x h hkx hxs hw.o (by simp [frA_at]) (by simp) fun M' hM' => ?_
      rw [hF] at hq
      refine hq M' _ hM' ⟨(fun e => by cases e),(by simp; omega),fun y hy => ?_⟩
      rcases List.mem_or_eq_of_mem_set hy with hy | rfl
      · have := hw.s y hy; simp only at this ⊢; omega
      · simp only; omega
    · have hF : dePutF ⟨md,n,sg⟩ = ⟨md,n + 1,sg ++ [(md,n,1)]⟩ := by
        unfold dePutF
        simp only [hlast,if_neg hmd]
      have hne1 : (x.1 != md) = true := by simp [hmd]
      simp -implicitDefEqProofs (disch := first | assumption | omega) [rc57,ro57,wkB,rtZ,sbZ,dC,ev,fiZ,pkZ,putAt,bnd,slD,gZ0,gZ1,Mem.cell,Mem.row,coZ,crZ,g0,hsl,hwk2,hk0,hidx,g1,hc,getL1 hc,hne1,hmd]
      refine SK_bslS h (cs := segC (md,n,0)) (by simp [fiZ,pkZ,wkB,rtZ,sbZ,dC,ev,fiZ,pkZ,putAt,bnd,slD,gZ0,gZ1,Mem.cell,Mem.row,coZ,crZ,segC]) rfl fun b4 m4 h4 _ _ => ?_
      have hO4 := (h4.slO 0 (k := 1) (sz := 3) rfl rfl (fun e => by cases e)).read
      have g4 := h4.get 1 rfl
      simp only [deC] at g4
      simp -implicitDefEqProofs (disch := first | assumption | omega) [wkB,rtZ,sbZ,dC,ev,fiZ,pkZ,putAt,bnd,slD,gZ0,gZ1,Mem.cell,Mem.row,coZ,crZ,g4]
      refine SK_apS h4 2 (n := sg.length) (k := 1) (ys := segC (md,n,0)) rfl (by simp [wkB,rtZ,sbZ,dC,ev,fiZ,pkZ,putAt,bnd,slD,gZ0,gZ1,Mem.cell,Mem.row,coZ,crZ]) (seg_flat_len sg) (fun e => by cases e) (by simp [wkB,rtZ,sbZ,dC,ev,fiZ,pkZ,putAt,bnd,slD,gZ0,gZ1,Mem.cell,Mem.row,coZ,crZ]; exact hO4.elems) (by simp [wkB,rtZ,sbZ,dC,ev,fiZ,pkZ,putAt,bnd,slD,gZ0,gZ1,Mem.cell,Mem.row,coZ,crZ]) rfl (by omega) (by unfold maxLen; omega) rfl fun o5 m5 h5 hn5 _ => ?_
      simp -implicitDefEqProofs (disch := first | assumption | omega) [wkB,rtZ,sbZ,dC,ev,fiZ,pkZ,putAt,bnd,slD,gZ0,gZ1,Mem.cell,Mem.row,coZ,crZ]
      refine SK_stS h5 1 rfl (o := 2) (vs := [slV o5 (sg.length + 1) 3]) (cs' := [.int .i64 md,.int .i64 (n : Int),slV o5 (sg.length + 1) 3]) (by simp [wkB,rtZ,sbZ,dC,ev,fiZ,pkZ,putAt,bnd,slD,gZ0,gZ1,Mem.cell,Mem.row,coZ,crZ]) (by simp [wkB,rtZ,sbZ,dC,ev,fiZ,pkZ,putAt,bnd,slD,gZ0,gZ1,Mem.cell,Mem.row,coZ,crZ]) (by simp) rfl (by simp [oneC_slV]) rfl fun m6 h6 _ => ?_
      have wk1 : IntKind.i64.wrap ((k : Int) + 1) = (sg.length : Int) := by rw [w64 (by omega)]; omega
      simp -implicitDefEqProofs (disch := first | assumption | omega) [wkB,rtZ,sbZ,dC,ev,fiZ,pkZ,putAt,bnd,slD,gZ0,gZ1,Mem.cell,Mem.row,coZ,crZ,wk1]
      have h6 : Sep m V m6 [(some id,deC o5 ⟨md,n,sg ++ [(md,n,0)]⟩),sgH o5 ⟨md,n,sg ++ [(md,n,0)]⟩] := by
        have e1 : (sg ++ [(md,n,0)]).length = sg.length + 1 := by simp
        have e2 : (sg ++ [(md,n,0)]).flatMap segC = sg.flatMap segC ++ segC (md,n,0) := by simp
        simp only [deC,sgH,e1,e2]
        exact h6.tl
      exact grow _ (by simp [frA_at]) m6 o5 h6 (fun e => by have := hn5 e; omega) (by simp) hF
end Go.Proofs.YtccjlggpiliilaaGreatDoor.Ab

set_option linter.unusedVariables false
set_option linter.unusedSimpArgs false
namespace Go.Proofs.YtccjlggpiliilaaGreatDoor.Ab
open Go Go.RowKit
set_option maxHeartbeats 4000000
set_option maxRecDepth 100000
structure Ho where
  tr : Int
  wt : Int
  ct : Int
  R : Nat
  vw : Value
  ve : Value
  vi : Value
  ph : Int
  k : Int
  ts : Int
  pl : Value
  gv : Value
  wa : Value
  lf : Int
  hd : List UInt8
  out : List UInt8
  q : List UInt8
  lost : Int
  d : De
  ma : Nat
  mb : Nat
  er : Nat
structure HoX where
  ir : Nat
  ib : Nat
  id : Nat
  at_ : Nat
  bs : List UInt8
  oh : Option Nat
  oo : Option Nat
  os : Option Nat
def hoC (s : Ho) (x : HoX) : List Value := [.int .i64 s.tr,.int .i64 s.wt,.int .i64 s.ct,.int .i64 (s.R : Int),s.vw,s.ve,s.vi,.int .i64 s.ph,.int .i64 s.k,.int .i64 s.ts,s.pl,s.gv,s.wa,.int .i64 s.lf,.pointer (some ⟨x.ir,0,none⟩),.pointer (some ⟨x.id,0,none⟩),slV x.oh s.hd.length 1,slV x.oo s.out.length 1,.complex .f64 s.ma s.mb,errV s.er]
def hoH (ih : Nat) (s : Ho) (x : HoX) : HL := [(some ih,.own (hoC s x) 83),byH x.oh s.hd,byH x.oo s.out,(some x.ir,riC x.ib s.R x.at_ s.q.length s.lost),byH (some x.ib) x.bs,(some x.id,deC x.os s.d),sgH x.os s.d]
structure HoOk (s : Ho) (x : HoX) : Prop where
  h : x.oh = none → s.hd.length = 0
  o : x.oo = none → s.out.length = 0
  r : RiOk s.R x.at_ x.bs s.q
  d : DeW x.os s.d
  l : 0 ≤ s.lost
def hSendF (s : Ho) (b : List UInt8) : Ho := { s with out := s.out ++ b }
def hEndF (s : Ho) (e : Nat) : Ho := { s with ph := 7,er := e,d := { s.d with md := 0 } }
def hPutF (s : Ho) (b : List UInt8) : Ho :=
  if 0 < s.lost + ((b.length - min b.length (s.R - s.q.length) : Nat) : Int) ∧ s.ph ≠ 7 then hEndF { s with q := s.q ++ b.take (min b.length (s.R - s.q.length)),lost := s.lost + ((b.length - min b.length (s.R - s.q.length) : Nat) : Int) } 13
  else { s with q := s.q ++ b.take (min b.length (s.R - s.q.length)),lost := s.lost + ((b.length - min b.length (s.R - s.q.length) : Nat) : Int) }
theorem c_hSend {w0 : World} {V : Nat → Prop} {m0 m : Mem} {T : HL} {ih : Nat} {s : Ho} {x : HoX} {v : Value} {b : List UInt8} {Q : Value → Mem → Prop} (h : Sep m0 V m (hoH ih s x ++ T)) (hx : HoOk s x) (hr : SlR m 1 v (b.map byteV) b.length) (hl : s.out.length + b.length ≤ 140737488355328)
    (hq : ∀ M x',Sep m0 V M (hoH ih (hSendF s b) x' ++ T) → HoOk (hSendF s b) x' → Q (.tuple ⟨[]⟩) M) : AbC Tryz.prog w0 32 [.pointer (some ⟨ih,0,none⟩),v] m Q := by
  refine AbC_fn ok32 (by simp) ?_
  have g0 := h.get 0 rfl
  simp only [hoC] at g0
  simp -implicitDefEqProofs (disch := first | assumption | omega) [rc32,ro32,wkB,rtZ,sbZ,dC,ev,fiZ,pkZ,putAt,bnd,slD,gZ0,gZ1,Mem.cell,Mem.row,coZ,crZ,g0]
  refine SK_apS h 2 (n := s.out.length) (k := b.length) (ys := b.map byteV) rfl (by simp [wkB,rtZ,sbZ,dC,ev,fiZ,pkZ,putAt,bnd,slD,gZ0,gZ1,Mem.cell,Mem.row,coZ,crZ]) (by simp) hx.o (by simp [wkB,rtZ,sbZ,dC,ev,fiZ,pkZ,putAt,bnd,slD,gZ0,gZ1,Mem.cell,Mem.row,coZ,crZ]; exact hr.elems) (by simp [wkB,rtZ,sbZ,dC,ev,fiZ,pkZ,putAt,bnd,slD,gZ0,gZ1,Mem.cell,Mem.row,coZ,crZ]; exact hr.lenV) (byteV_oneC _) (by omega) (by unfold maxLen; omega) (by simp) fun oo m1 h1 ho1 _ => ?_
  rw [← List.map_append] at h1
  simp -implicitDefEqProofs (disch := first | assumption | omega) [wkB,rtZ,sbZ,dC,ev,fiZ,pkZ,putAt,bnd,slD,gZ0,gZ1,Mem.cell,Mem.row,coZ,crZ]
  refine SK_stS h1 0 rfl (o := 17) (vs := [slV oo (s.out.length + b.length) 1]) (cs' := hoC (hSendF s b) { x with oo := oo }) (by simp [wkB,rtZ,sbZ,dC,ev,fiZ,pkZ,putAt,bnd,slD,gZ0,gZ1,Mem.cell,Mem.row,coZ,crZ]) (by simp [wkB,rtZ,sbZ,dC,ev,fiZ,pkZ,putAt,bnd,slD,gZ0,gZ1,Mem.cell,Mem.row,coZ,crZ]) (by simp [hoC]) rfl (by simp [oneC_slV]) (by simp [hoC,putAt,hSendF]) fun m2 h2 _ => ?_
  simp -implicitDefEqProofs (disch := first | assumption | omega) [wkB,rtZ,sbZ,dC,ev,fiZ,pkZ,putAt,bnd,slD,gZ0,gZ1,Mem.cell,Mem.row,coZ,crZ]
  exact hq m2 { x with oo := oo } h2 ⟨hx.h,fun e => by simp only [hSendF,List.length_append]; exact ho1 e,hx.r,hx.d,hx.l⟩
theorem c_hEnd {w0 : World} {V : Nat → Prop} {m0 m : Mem} {T : HL} {ih e : Nat} {s : Ho} {x : HoX} {Q : Value → Mem → Prop} (h : Sep m0 V m (hoH ih s x ++ T)) (hx : HoOk s x)
    (hq : ∀ M,Sep m0 V M (hoH ih (hEndF s e) x ++ T) → HoOk (hEndF s e) x → Q (.tuple ⟨[]⟩) M) : AbC Tryz.prog w0 30 [.pointer (some ⟨ih,0,none⟩),errV e] m Q := by
  refine AbC_fn ok30 (by simp) ?_
  simp -implicitDefEqProofs (disch := first | assumption | omega) [rc30,ro30,wkB,rtZ,sbZ,dC,ev,fiZ,pkZ,putAt,bnd,slD,gZ0,gZ1,Mem.cell,Mem.row,coZ,crZ]
  refine SK_stS h 0 rfl (o := 7) (vs := [.int .i64 7]) (cs' := hoC { s with ph := 7 } x) (by simp [wkB,rtZ,sbZ,dC,ev,fiZ,pkZ,putAt,bnd,slD,gZ0,gZ1,Mem.cell,Mem.row,coZ,crZ]) (by simp [wkB,rtZ,sbZ,dC,ev,fiZ,pkZ,putAt,bnd,slD,gZ0,gZ1,Mem.cell,Mem.row,coZ,crZ]) (by simp [hoC]) rfl rfl (by simp [hoC,putAt]) fun m1 h1 _ => ?_
  simp -implicitDefEqProofs (disch := first | assumption | omega) [wkB,rtZ,sbZ,dC,ev,fiZ,pkZ,putAt,bnd,slD,gZ0,gZ1,Mem.cell,Mem.row,coZ,crZ]
  refine SK_stS h1 0 rfl (o := 19) (vs := [errV e]) (cs' := hoC { s with ph := 7,er := e } x) (by simp [wkB,rtZ,sbZ,dC,ev,fiZ,pkZ,putAt,bnd,slD,gZ0,gZ1,Mem.cell,Mem.row,coZ,crZ]) (by simp [wkB,rtZ,sbZ,dC,ev,fiZ,pkZ,putAt,bnd,slD,gZ0,gZ1,Mem.cell,Mem.row,coZ,crZ,cellsV_errV]) (by simp [hoC]) rfl (by simp [oneC_errV]) (by simp [hoC,putAt]) fun m2 h2 _ => ?_
  have g2 := h2.get 0 rfl
  simp only [hoC] at g2
  simp -implicitDefEqProofs (disch := first | assumption | omega) [wkB,rtZ,sbZ,dC,ev,fiZ,pkZ,putAt,bnd,slD,gZ0,gZ1,Mem.cell,Mem.row,coZ,crZ,g2]
  refine c_deSw (d := s.d) (os := x.os) h2 5 rfl (.inl rfl) fun m3 h3 => ?_
  simp -implicitDefEqProofs (disch := first | assumption | omega) [wkB,rtZ,sbZ,dC,ev,fiZ,pkZ,putAt,bnd,slD,gZ0,gZ1,Mem.cell,Mem.row,coZ,crZ]
  exact hq m3 h3 ⟨hx.h,hx.o,hx.r,⟨hx.d.o,hx.d.l,hx.d.s⟩,hx.l⟩
theorem c_hPhase {w0 : World} {V : Nat → Prop} {m0 m : Mem} {l : HL} {ih : Nat} {s : Ho} {x : HoX} {Q : Value → Mem → Prop} (h : Sep m0 V m l) (hm : (some ih,Ent.own (hoC s x) 83) ∈ l) (hq : Q (.int .i64 s.ph) m) : AbC Tryz.prog w0 14 [.pointer (some ⟨ih,0,none⟩)] m Q := by
  refine AbC_fn ok14 (by simp) ?_
  have g0 := h.mem hm
  simp only [hoC] at g0
  simp -implicitDefEqProofs (disch := first | assumption | omega) [rc14,ro14,wkB,rtZ,sbZ,dC,ev,fiZ,pkZ,putAt,bnd,slD,gZ0,gZ1,Mem.cell,Mem.row,coZ,crZ,g0]
  exact hq
theorem c_hOut {w0 : World} {V : Nat → Prop} {m0 m : Mem} {T : HL} {ih : Nat} {s : Ho} {x : HoX} {Q : Value → Mem → Prop} (h : Sep m0 V m (hoH ih s x ++ T)) (hx : HoOk s x)
    (hq : ∀ M x',Sep m0 V M (byH x.oo s.out :: (hoH ih { s with out := [] } x' ++ T)) → HoOk { s with out := [] } x' → Q (slV x.oo s.out.length 1) M) : AbC Tryz.prog w0 16 [.pointer (some ⟨ih,0,none⟩)] m Q := by
  refine AbC_fn ok16 (by simp) ?_
  have g0 := h.get 0 rfl
  simp only [hoC] at g0
  simp -implicitDefEqProofs (disch := first | assumption | omega) [rc16,ro16,wkB,rtZ,sbZ,dC,ev,fiZ,pkZ,putAt,bnd,slD,gZ0,gZ1,Mem.cell,Mem.row,coZ,crZ,g0]
  refine SK_stS h 0 rfl (o := 17) (vs := [.slice none 0 0]) (cs' := hoC { s with out := [] } { x with oo := none }) (by simp [wkB,rtZ,sbZ,dC,ev,fiZ,pkZ,putAt,bnd,slD,gZ0,gZ1,Mem.cell,Mem.row,coZ,crZ]) (by simp [wkB,rtZ,sbZ,dC,ev,fiZ,pkZ,putAt,bnd,slD,gZ0,gZ1,Mem.cell,Mem.row,coZ,crZ]) (by simp [hoC]) rfl rfl (by simp [hoC,putAt,slV]) fun m1 h1 _ => ?_
  simp -implicitDefEqProofs (disch := first | assumption | omega) [wkB,rtZ,sbZ,dC,ev,fiZ,pkZ,putAt,bnd,slD,gZ0,gZ1,Mem.cell,Mem.row,coZ,crZ]
  refine hq m1 { x with oo := none } ?_ ⟨hx.h,fun _ => rfl,hx.r,hx.d,hx.l⟩
  have h2 : Sep m0 V m1 ([(some ih,.own (hoC { s with out := [] } { x with oo := none }) 83),byH x.oh s.hd,byH x.oo s.out,(some x.ir,riC x.ib s.R x.at_ s.q.length s.lost),byH (some x.ib) x.bs,(some x.id,deC x.os s.d),sgH x.os s.d] ++ T) := h1
  have h3 := (h2.non (.own [] 5)).selF (F := [(none,.own [] 5),(some ih,.own (hoC { s with out := [] } { x with oo := none }) 83),byH x.oh s.hd,byH x.oo s.out,(some x.ir,riC x.ib s.R x.at_ s.q.length s.lost),byH (some x.ib) x.bs,(some x.id,deC x.os s.d),sgH x.os s.d]) [3,1,2,0,4,5,6,7] (by decide)
  exact h3
theorem c_hPut {w0 : World} {V : Nat → Prop} {m0 m : Mem} {T : HL} {ih : Nat} {s : Ho} {x : HoX} {v : Value} {b : List UInt8} {Q : Value → Mem → Prop} (h : Sep m0 V m (hoH ih s x ++ T)) (hx : HoOk s x) (hr : RdV (fun i => i < m.next ∧ ¬ ids (hoH ih s x) i) m 1 v (b.map byteV) b.length) (hb : b.length ≤ 140737488355328) (hl : s.lost ≤ 1000000000000000000)
    (hq : ∀ M x',Sep m0 V M (hoH ih (hPutF s b) x' ++ T) → HoOk (hPutF s b) x' → Q (.tuple ⟨[]⟩) M) : AbC Tryz.prog w0 11 [.pointer (some ⟨ih,0,none⟩),v] m Q := by
  refine AbC_fn ok11 (by simp) ?_
  have g0 := h.get 0 rfl
  simp only [hoC] at g0
  simp -implicitDefEqProofs (disch := first | assumption | omega) [rc11,ro11,wkB,rtZ,sbZ,dC,ev,fiZ,pkZ,putAt,bnd,slD,gZ0,gZ1,Mem.cell,Mem.row,coZ,crZ,g0]
  obtain ⟨f,hf⟩ : ∃ f,f = min b.length (s.R - s.q.length) := ⟨_,rfl⟩
  have hp := Sep.selF (F := hoH ih s x) (T := T) h [3,4,0,1,2,5,6] (by decide)
  have hp : Sep m0 V m ([(some x.ir,riC x.ib s.R x.at_ s.q.length s.lost),byH (some x.ib) x.bs] ++ ([(some ih,.own (hoC s x) 83),byH x.oh s.hd,byH x.oo s.out,(some x.id,deC x.os s.d),sgH x.os s.d] ++ T)) := hp
  have hpr := hp.fr.prot (fun i => i < m.next ∧ ¬ ids (hoH ih s x) i) fun i hi => ⟨hi.1,fun hn => hi.2 (by
    obtain ⟨p,hp1,hp2⟩ := hn
    refine ⟨p,?_,hp2⟩
    simp only [List.mem_cons,List.not_mem_nil,or_false] at hp1
    simp only [hoH,List.mem_cons,List.not_mem_nil,or_false]
    rcases hp1 with rfl | rfl
    · exact .inr (.inr (.inr (.inl rfl)))
    · exact .inr (.inr (.inr (.inr (.inl rfl)))))⟩
  refine c_riPut (f := f) hpr.self hx.r (hr.mono fun i _ hi => .inr hi) hb ⟨hx.l,hl⟩ hf fun m1 bs' h1 hO1 => ?_
  have h2 := hp.un (hp.fr.trm h1 fun i hi => .inl hi)
  obtain ⟨y,hy⟩ : ∃ y : Int,y = ((b.length - f : Nat) : Int) := ⟨_,rfl⟩
  have hy0 : 0 ≤ y := by omega
  rw [← hy] at h2
  obtain ⟨s1,hs1⟩ : ∃ s1 : Ho,s1 = { s with q := s.q ++ b.take f,lost := s.lost + y } := ⟨_,rfl⟩
  obtain ⟨x1,hx1⟩ : ∃ x1 : HoX,x1 = { x with bs := bs' } := ⟨_,rfl⟩
  have h3 := Sep.selF (F := [(some x.ir,riC x.ib s.R x.at_ (s.q ++ b.take f).length (s.lost + y)),byH (some x.ib) bs',(some ih,.own (hoC s x) 83),byH x.oh s.hd,byH x.oo s.out,(some x.id,deC x.os s.d),sgH x.os s.d]) (T := T) h2 [2,3,4,0,1,5,6] (by decide)
  have h3 : Sep m0 V m1 (hoH ih s1 x1 ++ T) := by rw [hs1,hx1]; exact h3
  have hok : HoOk s1 x1 := by rw [hs1,hx1]; exact ⟨hx.h,hx.o,hO1,hx.d,by have := hx.l; simp only; omega⟩
  have g3 := h3.get 0 rfl
  simp only [hoC] at g3
  have hF : hPutF s b = if 0 < s1.lost ∧ s1.ph ≠ 7 then hEndF s1 13 else s1 := by rw [hs1,hy]; unfold hPutF; rw [← hf]
  have hir : x1.ir = x.ir := by rw [hx1]
  have hph : s1.ph = s.ph := by rw [hs1]
  rw [hF] at hq
  rw [hir] at g3
  simp -implicitDefEqProofs (disch := first | assumption | omega) [wkB,rtZ,sbZ,dC,ev,fiZ,pkZ,putAt,bnd,slD,gZ0,gZ1,Mem.cell,Mem.row,coZ,crZ,g3]
  refine c_riLost (ir := x.ir) (ib := x1.ib) (R := s1.R) (a := x1.at_) (n := s1.q.length) (lost := s1.lost) h3 3 (by rw [← hir]; rfl) ?_
  by_cases hlost : 0 < s1.lost
  · by_cases hp7 : s1.ph = 7
    · rw [if_neg (fun hh => hh.2 hp7)] at hq
      simp -implicitDefEqProofs (disch := first | assumption | omega) [wkB,rtZ,sbZ,dC,ev,fiZ,pkZ,putAt,bnd,slD,gZ0,gZ1,Mem.cell,Mem.row,coZ,crZ,g3,hlost,hp7]
      exact hq m1 x1 h3 hok
    · rw [if_pos ⟨hlost,hp7⟩] at hq
      have hb7 : (s1.ph != 7) = true := by simp [hp7]
      have e13 : (Value.iface 44 (.int .i64 13)) = errV 13 := rfl
      simp -implicitDefEqProofs (disch := first | assumption | omega) [wkB,rtZ,sbZ,dC,ev,fiZ,pkZ,putAt,bnd,slD,gZ0,gZ1,Mem.cell,Mem.row,coZ,crZ,g3,hlost,hb7,e13]
      refine c_hEnd h3 hok fun m4 h4 hok4 => ?_
      simp -implicitDefEqProofs (disch := first | assumption | omega) [wkB,rtZ,sbZ,dC,ev,fiZ,pkZ,putAt,bnd,slD,gZ0,gZ1,Mem.cell,Mem.row,coZ,crZ]
      exact hq m4 x1 h4 hok4
  · rw [if_neg (fun hh => hlost hh.1)] at hq
    simp -implicitDefEqProofs (disch := first | assumption | omega) [wkB,rtZ,sbZ,dC,ev,fiZ,pkZ,putAt,bnd,slD,gZ0,gZ1,Mem.cell,Mem.row,coZ,crZ,g3,hlost]
    exact hq m1 x1 h3 hok
end Go.Proofs.YtccjlggpiliilaaGreatDoor.Ab

set_option linter.unusedVariables false
set_option linter.unusedSimpArgs false
namespace Go.Proofs.YtccjlggpiliilaaGreatDoor.Ab
open Go Go.RowKit
def shV (r : Nat → Nat) : Nat → Value → Value
  | 0,v => v
  | d + 1,v => match v with
    | .pointer (some ⟨i,o,none⟩) => .pointer (some ⟨r i,o,none⟩)
    | .slice (some ⟨i,o,none⟩) n c => .slice (some ⟨r i,o,none⟩) n c
    | .map (some i) => .map (some (r i))
    | .func fn ⟨f⟩ ⟨c⟩ => .func fn ⟨f.map (shV r d)⟩ ⟨c.map (shV r d)⟩
    | .iface t v => .iface t (shV r d v)
    | .agg ⟨l⟩ => .agg ⟨l.map (shV r d)⟩
    | .tuple ⟨l⟩ => .tuple ⟨l.map (shV r d)⟩
    | v => v
def okD : Nat → Value → Bool
  | 0,v => flatV v
  | d + 1,v => match v with
    | .func _ ⟨f⟩ ⟨c⟩ => f.all (okD d) && c.all (okD d)
    | .iface _ v => okD d v
    | .agg ⟨l⟩ => l.all (okD d)
    | .tuple ⟨l⟩ => l.all (okD d)
    | _ => true
theorem VRs.map_of {G G' : Loc} {f : Value → Value} : ∀ {l l' : List Value},VRs G l l' → (∀ v ∈ l,∀ v',VR G v v' → VR G' (f v) v') → VRs G' (l.map f) l'
  | _,_,.nil,_ => .nil
  | _,_,.cons v v' l l' h k,hf => .cons _ _ _ _ (hf v (by simp) v' h) (VRs.map_of k fun u hu => hf u (by simp [hu]))
theorem VR.shift {G G' : Loc} {r : Nat → Nat} (hr : ∀ i x,G i = some x → G' (r i) = some x) : ∀ (d : Nat) (v v' : Value),okD d v = true → VR G v v' → VR G' (shV r d v) v' := by
  intro d
  induction d with
  | zero =>
    intro v v' h hv
    have := VR.flat_eq h hv
    subst this
    exact VR.flat _ h
  | succ d ih =>
    intro v v' h hv
    cases hv with
    | bool b => exact .bool b
    | int k n => exact .int k n
    | float k n => exact .float k n
    | complex k n m => exact .complex k n m
    | str s => exact .str s
    | nilp => exact .nilp
    | ptr i o B b S hg => exact .ptr _ _ _ _ _ (hr _ _ hg)
    | nils => exact .nils
    | sl i o B b S n c z hg hn hc hS => exact .sl _ _ _ _ _ _ _ _ (hr _ _ hg) hn hc hS
    | empty a c hc => exact .empty a c hc
    | nilm => exact .nilm
    | map i B S hg => exact .map _ _ _ (hr _ _ hg)
    | nilf => exact .nilf
    | nili => exact .nili
    | func fn f c f' c' h1 h2 =>
      simp only [okD,Bool.and_eq_true,List.all_eq_true] at h
      exact .func _ _ _ _ _ (h1.map_of fun v hv v' k => ih v v' (h.1 v hv) k) (h2.map_of fun v hv v' k => ih v v' (h.2 v hv) k)
    | iface t v v' hv => exact .iface _ _ _ (ih _ _ h hv)
    | agg c c' hc =>
      simp only [okD,List.all_eq_true] at h
      exact .agg _ _ (hc.map_of fun v hv v' k => ih v v' (h v hv) k)
    | tuple c c' hc =>
      simp only [okD,List.all_eq_true] at h
      exact .tuple _ _ (hc.map_of fun v hv v' k => ih v v' (h v hv) k)
def ltW (k : Nat) : Nat → Value → Bool
  | 0,v => flatV v
  | d + 1,v => match v with
    | .pointer (some ⟨i,_,none⟩) => Nat.blt i k
    | .slice (some ⟨i,_,none⟩) _ _ => Nat.blt i k
    | .iface _ v => ltW k d v
    | .agg ⟨l⟩ => l.all (ltW k d)
    | .tuple ⟨l⟩ => l.all (ltW k d)
    | v => flatV v
theorem VRs.unmap {G G' : Loc} {f : Value → Value} : ∀ {l l' : List Value},VRs G (l.map f) l' → (∀ v ∈ l,∀ v',VR G (f v) v' → VR G' v v') → VRs G' l l'
  | [],_,.nil,_ => .nil
  | v :: l,_,.cons _ v' _ l' h k,hf => .cons _ _ _ _ (hf v (by simp) v' h) (VRs.unmap k fun u hu => hf u (by simp [hu]))
theorem shV_flat {r : Nat → Nat} {d : Nat} {v : Value} (h : flatV v = true) : shV r d v = v := by
  cases d with
  | zero => rfl
  | succ d =>
    unfold flatV at h
    split at h <;> first | rfl | cases h
theorem VR.unshift {G : Loc} {r : Nat → Nat} {k : Nat} : ∀ (d : Nat) (v v' : Value),ltW k d v = true → VR G (shV r d v) v' → VR (fun i => if i < k then G (r i) else none) v v' := by
  intro d
  induction d with
  | zero =>
    intro v v' h hv
    have := VR.flat_eq h hv
    subst this
    exact VR.flat _ h
  | succ d ih =>
    intro v v' h hv
    unfold ltW at h
    split at h
    · rename_i i o
      cases hv with
      | ptr _ _ B b S hg => exact .ptr _ _ _ _ _ (by rw [if_pos (blt_true.1 h)]; exact hg)
    · rename_i i o n c
      have hv : VR G (.slice (some ⟨r i,o,none⟩) n c) v' := hv
      obtain ⟨ri,hri⟩ : ∃ x,r i = x := ⟨_,rfl⟩
      rw [hri] at hv
      cases hv with
      | sl _ _ B b S _ c z hg hn hc hS => exact .sl _ _ _ _ _ _ _ _ (by rw [if_pos (blt_true.1 h),hri]; exact hg) hn hc hS
    · cases hv with
      | iface t v v' hv => exact .iface _ _ _ (ih _ _ h hv)
    · rename_i l
      cases hv with
      | agg c c' hc =>
        rw [List.all_eq_true] at h
        exact .agg _ _ (hc.unmap fun v hv v' k => ih v v' (h v hv) k)
    · rename_i l
      cases hv with
      | tuple c c' hc =>
        rw [List.all_eq_true] at h
        exact .tuple _ _ (hc.unmap fun v hv v' k => ih v v' (h v hv) k)
    · rw [shV_flat h] at hv
      have := VR.flat_eq h hv
      subst this
      exact VR.flat _ h
def shM (r : Nat → Nat) (es : List MapEntry) : List MapEntry := es.map fun e => { e with key := shV r 6 e.key,val := shV r 6 e.val }
def shE (r : Nat → Nat) : Ent → Ent
  | .own cs e => .own (cs.map (shV r 6)) e
  | .ro cs => .ro (cs.map (shV r 6))
  | .map es c => .map (shM r es) c
  | .siter s p => .siter s p
  | .miter none a b c => .miter none a b c
  | .miter (some i) a b c => .miter (some (r i)) a b c
  | .dead => .dead
def okE : Ent → Bool
  | .own cs _ => cs.all (okD 6)
  | .ro _ => false
  | .map es _ => es.all fun e => okD 6 e.key && okD 6 e.val
  | _ => true
theorem shE_mine {r : Nat → Nat} {e : Ent} : (shE r e).mine = e.mine := by
  cases e with
  | miter i a b c => cases i <;> rfl
  | _ => rfl
theorem shE_dead {r : Nat → Nat} {e : Ent} (h : shE r e ≠ .dead) : e ≠ .dead := by rintro rfl; exact h rfl
theorem ER.shift {w0 w1 w : World} {G G' : Loc} {r : Nat → Nat} {B b S : Nat} {e : Ent} (hr : ∀ i x,G i = some x → G' (r i) = some x) (hw : w0.heap.size ≤ w1.heap.size) (ho : okE e = true) (h : ER w1 w G B b S e) : ER w0 w G' B b S (shE r e) := by
  cases e with
  | own cs e =>
    obtain ⟨h0,c,fz,h1,hS,h2,h3⟩ := h
    simp only [okE,List.all_eq_true] at ho
    refine ⟨by omega,c,fz,h1,hS,h2,fun j v hj => ?_⟩
    rw [List.getElem?_map] at hj
    cases hu : cs[j]? with
    | none => rw [hu] at hj; cases hj
    | some u =>
      rw [hu] at hj
      cases hj
      obtain ⟨v',a,k⟩ := h3 j u hu
      exact ⟨v',a,VR.shift hr 6 _ _ (ho u (List.mem_of_getElem? hu)) k⟩
  | ro cs => cases ho
  | map es c =>
    obtain ⟨h0,hb,es',h1,h2,h3,h4⟩ := h
    simp only [okE,List.all_eq_true,Bool.and_eq_true] at ho
    refine ⟨by omega,hb,es',h1,?_,?_,?_⟩
    · rw [h2]; simp [shM]
    · have : (shM r es).map (·.key) = (es.map (·.key)).map (shV r 6) := by simp [shM]
      rw [this]
      exact h3.map_of fun v hv v' k => by
        obtain ⟨x,hx,rfl⟩ := List.mem_map.1 hv
        exact VR.shift hr 6 _ _ (ho x hx).1 k
    · have : (shM r es).map (·.val) = (es.map (·.val)).map (shV r 6) := by simp [shM]
      rw [this]
      exact h4.map_of fun v hv v' k => by
        obtain ⟨x,hx,rfl⟩ := List.mem_map.1 hv
        exact VR.shift hr 6 _ _ (ho x hx).2 k
  | siter s p => exact ⟨by have := h.1; omega,h.2⟩
  | miter m a b c =>
    obtain ⟨h0,hb,x,h1,h2⟩ := h
    cases m with
    | none => cases h2; exact ⟨by omega,hb,_,h1,.nilm⟩
    | some i => cases h2 with
      | map _ B2 S2 hg => exact ⟨by omega,hb,_,h1,.map _ _ _ (hr _ _ hg)⟩
  | dead => trivial
structure PartR (P : Program) (L : LM) (r : Nat → Nat) (m : Mem) : Prop where
  k : P.globals.size ≤ L.n
  g : ∀ i,i < P.globals.size → r i = i
  lt : ∀ i,i < L.n → r i < m.next
  e : ∀ i,i < L.n → (L.get i = .dead ∧ i < P.globals.size) ∨ ∃ cs,L.get i = .ro cs ∧ (m.get (r i)).cells? = some (cs.map (shV r 6)) ∧ cs.all (ltW L.n 6) = true
section
variable {P : Program} {w0 : World}
theorem PartR.some {w : World} {G : Loc} {m : Mem} {L : LM} {r : Nat → Nat} (h : St P w0 G m w) (hp : PartR P L r m) {i : Nat} (hi : i < L.n) : ∃ x,G (r i) = some x := by
  rcases hp.e i hi with ⟨-,hg⟩ | ⟨cs,-,h2,-⟩
  · obtain ⟨S,hS⟩ := h.glob i hg
    exact ⟨_,by rw [hp.g i hg]; exact hS⟩
  · obtain ⟨B,b,S,hg,-⟩ := h.ent (r i) (by intro e; rw [e] at h2; cases h2)
    exact ⟨_,hg⟩
theorem St.partR {w : World} {G : Loc} {m : Mem} {L : LM} {r : Nat → Nat} (h : St P w0 G m w) (hp : PartR P L r m) : St P w (fun i => if i < L.n then G (r i) else none) (toMem L) w where
  below := Below.refl _ _
  dom := fun i x hx => by
    have hx : (if i < L.n then G (r i) else none) = some x := hx
    split at hx
    · assumption
    · cases hx
  lim := fun i B b S hd hx => by
    have hx : (if i < L.n then G (r i) else none) = some (B,b,S) := hx
    split at hx
    · rename_i hi
      rcases hp.e i hi with ⟨h1,-⟩ | ⟨cs,h1,h2,-⟩
      · exact (hd h1).elim
      · exact h.lim (r i) B b S (by intro e; rw [e] at h2; cases h2) hx
    · cases hx
  ent := fun i hi => by
    have hlt : i < L.n := by
      rcases Nat.lt_or_ge i L.n with h' | h'
      · exact h'
      · exact (hi (LM.get_ge (by omega))).elim
    rcases hp.e i hlt with ⟨h1,-⟩ | ⟨cs,h1,h2,h3⟩
    · exact (hi h1).elim
    · have hnd : m.get (r i) ≠ .dead := by intro e; rw [e] at h2; cases h2
      obtain ⟨B,b,S,hg,_⟩ := h.ent (r i) hnd
      refine ⟨B,b,S,by rw [if_pos hlt]; exact hg,?_⟩
      show ER w w _ B b S (L.get i)
      rw [h1]
      refine ⟨h.lim (r i) B b S hnd hg,fun j v hj => ?_⟩
      obtain ⟨v',c1,c2⟩ := h.cell (o := j) (v := shV r 6 v) hg (by simp only [Mem.cell,h2,List.getElem?_map,hj,Option.map_some,Option.bind])
      rw [List.all_eq_true] at h3
      exact ⟨v',c1,VR.unshift 6 _ _ (h3 v (List.mem_of_getElem? hj)) c2⟩
  inj := fun i j B x y hi => by
    have h0 : (L.get i).mine = true := hi
    rcases Nat.lt_or_ge i L.n with h' | h'
    · rcases hp.e i h' with ⟨h1,-⟩ | ⟨cs,h1,-⟩ <;> rw [h1] at h0 <;> cases h0
    · rw [LM.get_ge (by omega)] at h0; cases h0
  glob := fun g hg => by
    obtain ⟨S,hS⟩ := h.glob g hg
    refine ⟨S,?_⟩
    show (if g < L.n then G (r g) else none) = _
    rw [if_pos (Nat.lt_of_lt_of_le hg hp.k),hp.g g hg]
    exact hS
  ali := fun i cs e B b S hi => by
    have h0 : L.get i = .own cs e := hi
    rcases Nat.lt_or_ge i L.n with h' | h'
    · rcases hp.e i h' with ⟨h1,-⟩ | ⟨cs,h1,-⟩ <;> rw [h1] at h0 <;> cases h0
    · rw [LM.get_ge (by omega)] at h0; cases h0
def shN (k n : Nat) (r : Nat → Nat) (i : Nat) : Nat := if i < k then r i else n + (i - k)
noncomputable def behind (m : Mem) (k : Nat) (r : Nat → Nat) (L : LM) : Mem := ⟨m.next + (L.n - k),fun j => if j < m.next then m.get j else shE (shN k m.next r) (L.get (j - m.next + k))⟩
noncomputable def okNew (L : LM) (k : Nat) : Nat → Bool := Nat.rec true fun i ih => (Nat.blt i k || okE (L.get i)) && ih
theorem okNew_at {L : LM} {k : Nat} : ∀ {n : Nat},okNew L k n = true → ∀ i,i < n → k ≤ i → okE (L.get i) = true
  | 0,_,i,hi,_ => by omega
  | n + 1,h,i,hi,hk => by
    have h : ((Nat.blt n k || okE (L.get n)) && okNew L k n) = true := h
    simp only [Bool.and_eq_true,Bool.or_eq_true,blt_true] at h
    rcases Nat.lt_or_ge i n with hl | hl
    · exact okNew_at h.2 i hl hk
    · have : i = n := by omega
      subst this
      rcases h.1 with h | h
      · omega
      · exact h
theorem St.behind {w w' : World} {G G' : Loc} {m : Mem} {L L' : LM} {r : Nat → Nat} (h : St P w0 G m w) (hp : PartR P L r m) (h' : St P w G' (toMem L') w') (hle : Loc.le (fun i => if i < L.n then G (r i) else none) G') (hn : L.n ≤ L'.n) (ho : okNew L' L.n L'.n = true) :
    ∃ G2,Loc.le G G2 ∧ (∀ i x,G' i = some x → G2 (shN L.n m.next r i) = some x) ∧ St P w0 G2 (Ab.behind m L.n r L') w' := by
  have hg := h.grown h'.below
  let G2 : Loc := fun j => if j < m.next then G j else if j - m.next + L.n < L'.n then G' (j - m.next + L.n) else none
  have hG : Loc.le G G2 := fun i x hx => by
    show (if i < m.next then G i else _) = some x
    rw [if_pos (h.dom i x hx)]; exact hx
  have hr : ∀ i x,G' i = some x → G2 (shN L.n m.next r i) = some x := fun i x hx => by
    have hd : i < L'.n := h'.dom i x hx
    unfold shN
    split
    · rename_i hi
      obtain ⟨y,hy⟩ := hp.some h hi
      have h1 := hle i y (by show (if i < L.n then G (r i) else none) = _; rw [if_pos hi]; exact hy)
      rw [hx] at h1
      cases h1
      exact hG _ _ hy
    · rename_i hi
      show (if m.next + (i - L.n) < m.next then _ else if m.next + (i - L.n) - m.next + L.n < L'.n then G' (m.next + (i - L.n) - m.next + L.n) else none) = some x
      have e : m.next + (i - L.n) - m.next + L.n = i := by omega
      rw [if_neg (by omega),e,if_pos hd,hx]
  have G2o : ∀ {j},j < m.next → G2 j = G j := fun hj => if_pos hj
  have G2n : ∀ {j x},¬ j < m.next → G2 j = some x → j - m.next + L.n < L'.n ∧ G' (j - m.next + L.n) = some x := fun {j x} hj hx => by
    have hx : (if j < m.next then G j else if j - m.next + L.n < L'.n then G' (j - m.next + L.n) else none) = some x := hx
    rw [if_neg hj] at hx
    split at hx
    · exact ⟨by assumption,hx⟩
    · cases hx
  have mo : ∀ {j},j < m.next → (Ab.behind m L.n r L').get j = m.get j := fun hj => if_pos hj
  have mn : ∀ {j},¬ j < m.next → (Ab.behind m L.n r L').get j = shE (shN L.n m.next r) (L'.get (j - m.next + L.n)) := fun hj => if_neg hj
  have hlt : ∀ {j},L'.get j ≠ .dead → j < L'.n := fun {j} hj => by
    rcases Nat.lt_or_ge j L'.n with h' | h'
    · exact h'
    · exact (hj (LM.get_ge (by omega))).elim
  refine ⟨G2,hG,hr,hg.below,?_,?_,?_,?_,?_,?_⟩
  · intro i x hx
    show i < m.next + (L'.n - L.n)
    by_cases hi : i < m.next
    · omega
    · have := (G2n hi hx).1; omega
  · intro i B b S hd hx
    by_cases hi : i < m.next
    · rw [mo hi] at hd; rw [G2o hi] at hx; exact hg.lim i B b S hd hx
    · rw [mn hi] at hd
      exact h'.lim _ B b S (shE_dead hd) (G2n hi hx).2
  · intro i hd
    by_cases hi : i < m.next
    · rw [mo hi] at hd ⊢
      obtain ⟨B,b,S,g,e⟩ := hg.ent i hd
      exact ⟨B,b,S,by rw [G2o hi]; exact g,e.mono hG⟩
    · rw [mn hi] at hd ⊢
      have hd2 := shE_dead hd
      obtain ⟨B,b,S,g,e⟩ := h'.ent _ hd2
      have h3 := hlt hd2
      refine ⟨B,b,S,?_,e.shift hr h.below.size (okNew_at ho _ h3 (by omega))⟩
      show (if i < m.next then G i else if i - m.next + L.n < L'.n then G' (i - m.next + L.n) else none) = some (B,b,S)
      rw [if_neg hi,if_pos h3]; exact g
  · intro i j B x y hi hj gi gj
    have key : ∀ {i j : Nat} {x y : Nat × Nat},i < m.next → ¬ j < m.next → (m.get i).mine = true → (shE (shN L.n m.next r) (L'.get (j - m.next + L.n))).mine = true → G i = some (B,x) → G' (j - m.next + L.n) = some (B,y) → False := by
      intro i j x y h1 h2 hi hj gi gj
      obtain ⟨x1,x2⟩ := x
      obtain ⟨y1,y2⟩ := y
      have a1 := h.lim i B x1 x2 (Ent.live hi) gi
      rw [shE_mine] at hj
      obtain ⟨B',b',S',g',e'⟩ := h'.ent _ (Ent.live hj)
      rw [show G' (j - m.next + L.n) = some (B,y1,y2) from gj] at g'
      cases g'
      have a2 := e'.size hj
      omega
    by_cases h1 : i < m.next <;> by_cases h2 : j < m.next
    · rw [mo h1] at hi; rw [mo h2] at hj; rw [G2o h1] at gi; rw [G2o h2] at gj
      exact h.inj i j B x y hi hj gi gj
    · rw [mo h1] at hi; rw [mn h2] at hj; rw [G2o h1] at gi
      exact (key h1 h2 hi hj gi (G2n h2 gj).2).elim
    · rw [mn h1] at hi; rw [mo h2] at hj; rw [G2o h2] at gj
      exact (key h2 h1 hj hi gj (G2n h1 gi).2).elim
    · rw [mn h1,shE_mine] at hi; rw [mn h2,shE_mine] at hj
      have := h'.inj _ _ B x y hi hj (G2n h1 gi).2 (G2n h2 gj).2
      omega
  · intro g hg'
    obtain ⟨S,hS⟩ := h.glob g hg'
    exact ⟨S,hG _ _ hS⟩
  · intro i cs e B b S hi hx
    by_cases h1 : i < m.next
    · rw [mo h1] at hi; rw [G2o h1] at hx; exact h.ali i cs e B b S hi hx
    · rw [mn h1] at hi
      obtain ⟨-,hx⟩ := G2n h1 hx
      cases he : L'.get (i - m.next + L.n) with
      | own cs' e' =>
        rw [he] at hi
        cases hi
        exact h'.ali _ _ _ _ _ _ he hx
      | miter a b c d => rw [he] at hi; cases a <;> cases hi
      | _ => rw [he] at hi; cases hi
theorem behind_old {m : Mem} {k : Nat} {r : Nat → Nat} {L : LM} {i : Nat} (h : i < m.next) : (Ab.behind m k r L).get i = m.get i := if_pos h
theorem behind_new {m : Mem} {k : Nat} {r : Nat → Nat} {L : LM} (i : Nat) : (Ab.behind m k r L).get (m.next + i) = shE (shN k m.next r) (L.get (i + k)) := by
  show (if m.next + i < m.next then _ else shE _ (L.get (m.next + i - m.next + k))) = _
  rw [if_neg (by omega),show m.next + i - m.next + k = i + k by omega]
def eqM : List MapEntry → List MapEntry → Bool
  | [],[] => true
  | a :: l,b :: r => eqV 6 a.key b.key && eqV 6 a.val b.val && Nat.beq a.born b.born && eqM l r
  | _,_ => false
theorem eqM_eq : ∀ {a b : List MapEntry},eqM a b = true → a = b
  | [],[],_ => rfl
  | ⟨a1,a2,a3⟩ :: l,⟨b1,b2,b3⟩ :: r,h => by
    simp only [eqM,Bool.and_eq_true] at h
    obtain ⟨⟨⟨h1,h2⟩,h3⟩,h4⟩ := h
    rw [eqV_eq _ _ _ h1,eqV_eq _ _ _ h2,Nat.eq_of_beq_eq_true h3,eqM_eq h4]
  | [],_ :: _,h => by cases h
  | _ :: _,[],h => by cases h
def eqE : Ent → Ent → Bool
  | .own a e,.own b e' => eqL (eqV 6) a b && decide (e = e')
  | .map a c,.map b c' => eqM a b && Nat.beq c c'
  | _,_ => false
theorem eqE_eq {a b : Ent} (h : eqE a b = true) : a = b := by
  unfold eqE at h
  split at h
  · simp only [Bool.and_eq_true,decide_eq_true_eq] at h
    rw [eqL_eq (fun a b h => eqV_eq _ a b h) h.1,h.2]
  · simp only [Bool.and_eq_true] at h
    rw [eqM_eq h.1,Nat.eq_of_beq_eq_true h.2]
  · cases h
noncomputable def tellE (L : LM) : Nat → List (Option Ent) → Bool
  | _,[] => true
  | k,none :: l => tellE L (k + 1) l
  | k,some e :: l => eqE (L.get k) e && tellE L (k + 1) l
theorem tellE_at {L : LM} : ∀ {k : Nat} {l : List (Option Ent)},tellE L k l = true → ∀ i e,l[i]? = some (some e) → L.get (i + k) = e
  | _,[],_,i,e,h => by simp at h
  | k,none :: l,h,0,e,hi => by simp at hi
  | k,none :: l,h,i + 1,e,hi => by
    have := tellE_at (k := k + 1) h i e (by simpa using hi)
    rw [← this]; congr 1; omega
  | k,some x :: l,h,0,e,hi => by
    simp only [tellE,Bool.and_eq_true] at h
    simp at hi
    subst hi
    rw [Nat.zero_add]
    exact eqE_eq h.1
  | k,some x :: l,h,i + 1,e,hi => by
    simp only [tellE,Bool.and_eq_true] at h
    have := tellE_at (k := k + 1) h.2 i e (by simpa using hi)
    rw [← this]; congr 1; omega
noncomputable def outM (k : Nat) (v : Value) (es : List (Option Ent)) : Option (Value × LM) → Bool
  | some (u,L) => eqV 6 u v && okD 6 v && Nat.beq L.n (k + es.length) && okNew L k L.n && tellE L k es
  | none => false
theorem AbC_lay {T : List TE} {X : CallE} {f : FuncId} {args : List Value} {m : Mem} {L : LM} {r : Nat → Nat} {v : Value} {es : List (Option Ent)} {Q : Value → Mem → Prop} (n : Nat) (hT : TOk P T) (hX : XOk P X) (hp : PartR P L r m) (ha : args.all (ltW L.n 6) = true)
    (h : outM L.n v es (callE T X P n f args L) = true)
    (hQ : ∀ M,M.next = m.next + es.length → (∀ i,i < m.next → M.get i = m.get i) → (∀ i e,es[i]? = some (some e) → M.get (m.next + i) = shE (shN L.n m.next r) e) → Q (shV (shN L.n m.next r) 6 v) M) : AbC P w0 f (args.map (shV r 6)) m Q := by
  intro G w args' hs hargs
  cases hc : callE T X P n f args L with
  | none => rw [hc] at h; cases h
  | some x =>
    obtain ⟨u,L'⟩ := x
    rw [hc] at h
    simp only [outM,Bool.and_eq_true] at h
    obtain ⟨⟨⟨⟨h1,h2⟩,h3⟩,h4⟩,h5⟩ := h
    have := eqV_eq _ _ _ h1
    subst this
    have h3 := Nat.eq_of_beq_eq_true h3
    have hcall := callE_ok (w0 := w) hT hX n _ _ _ _ _ hc (fun x y => x = u ∧ y = toMem L') ⟨rfl,rfl⟩
    rw [List.all_eq_true] at ha
    have := hcall _ w args' (hs.partR hp) (hargs.unmap fun v hv v' k => VR.unshift 6 _ _ (ha v hv) k)
    refine this.mono ?_
    rintro v' w' ⟨G',_,_,k1,k2,k3,rfl,rfl⟩
    obtain ⟨G2,g1,g2,g3⟩ := hs.behind hp k3 k1 (by omega) h4
    refine ⟨G2,_,_,g1,VR.shift g2 6 _ _ h2 k2,g3,hQ _ ?_ (fun i hi => behind_old hi) fun i e hi => ?_⟩
    · show m.next + (L'.n - L.n) = _
      omega
    · rw [behind_new,tellE_at h5 i e hi]
end
end Go.Proofs.YtccjlggpiliilaaGreatDoor.Ab

set_option linter.unusedVariables false
set_option linter.unusedSimpArgs false
namespace Go.Proofs.YtccjlggpiliilaaGreatDoor.Ab
open Go Go.RowKit
set_option maxHeartbeats 4000000
set_option maxRecDepth 100000
theorem RdV.blk {X : Nat → Prop} {m : Mem} {i n sz e : Nat} {cs : List Value} (g : m.get i = .own cs e) (hl : cs.length = n * sz) (hi : i < m.next) (hx : X i) : RdV X m sz (.slice (some ⟨i,0,none⟩) n sz) cs n :=
  ⟨⟨hl,.inr ⟨i,0,cs,rfl,by rw [g]; rfl,by omega,by rw [List.drop_zero,List.take_of_length_le (by omega)]⟩⟩,fun b hb => by cases hb; exact ⟨hi,hx⟩⟩
def L1 (p : List UInt8) : LM := ⟨6,(.n (.n (.n (.n (.n .dead (.ro e10) (.ro e32) (.ro e64) .dead (.ro [.string ⟨⟨p⟩⟩]) .dead .dead) .e .e .e .e .e .e .e) .e .e .e .e .e .e .e) .e .e .e .e .e .e .e) .e .e .e .e .e .e .e)⟩
theorem flat_sh {r : Nat → Nat} {cs : List Value} (h : cs.all flatV = true) : cs.map (shV r 6) = cs := by
  rw [List.all_eq_true] at h
  have : ∀ v ∈ cs,shV r 6 v = v := fun v hv => shV_flat (h v hv)
  rw [List.map_congr_left this]
  simp
theorem partR_L1 {m : Mem} {p : List UInt8} {b : Nat} (hp : Part L0 m) (hb : b < m.next) (g : m.get b = .own [.string ⟨⟨p⟩⟩] 9) : PartR Tryz.prog (L1 p) (fun j => if j = 5 then b else j) m := by
  have hk : Tryz.prog.globals.size = 5 := globals_size
  have hro : ∀ j cs,L0.get j = .ro cs → (m.get j).cells? = some cs := fun j cs h => by
    rcases hp.2 j with h1 | ⟨cs',h1,h2,-⟩
    · rw [h] at h1; cases h1
    · rw [h] at h1; cases h1; exact h2
  have hn := hp.1
  have hn7 : 5 ≤ m.next := hn
  refine ⟨by rw [hk]; show 5 ≤ 6; omega,fun i hi => by rw [hk] at hi; show (if i = 5 then b else i) = i; rw [if_neg (by omega)],fun i hi => ?_,fun i hi => ?_⟩
  · have hi : i < 6 := hi
    show (if i = 5 then b else i) < m.next
    split <;> omega
  · have hi : i < 6 := hi
    rw [hk]
    rcases (show i = 0 ∨ i = 1 ∨ i = 2 ∨ i = 3 ∨ i = 4 ∨ i = 5 by omega) with rfl | rfl | rfl | rfl | rfl | rfl
    · exact .inl ⟨rfl,by decide⟩
    · exact .inr ⟨e10,rfl,by rw [flat_sh (by decide)]; exact hro 1 e10 rfl,by show e10.all (ltW 6 6) = true; decide⟩
    · exact .inr ⟨e32,rfl,by rw [flat_sh (by decide)]; exact hro 2 e32 rfl,by show e32.all (ltW 6 6) = true; decide⟩
    · exact .inr ⟨e64,rfl,by rw [flat_sh (by decide)]; exact hro 3 e64 rfl,by show e64.all (ltW 6 6) = true; decide⟩
    · exact .inl ⟨rfl,by decide⟩
    · exact .inr ⟨[.string ⟨⟨p⟩⟩],rfl,by show (m.get b).cells? = _; rw [g]; rfl,rfl⟩
def es_p : List (Option Ent) := [some (.own [.slice none 0 0] 186),some (.own [.slice (some ⟨105,0,none⟩) 1 1,.slice (some ⟨6,0,none⟩) 1 1,.int .i64 0,.bool false] 146),none,none,none,none,none,none,none,none,none,none,none,none,none,none,none,none,none,none,none,none,none,none,none,none,none,none,none,none,none,none,none,none,none,none,none,none,none,none,none,none,none,none,none,none,none,none,none,none,none,none,none,none,none,none,none,none,none,none,none,none,some (.own [.int .u64 2305843009213693952,.int .u64 0,.int .u64 0,.int .u64 0,.int .u64 4611686018427387904,.int .u64 0,.int .u64 0,.int .u64 0,.int .u64 4294967296,.int .u64 0,.int .u64 0,.int .u64 0] 150),none,none,none,none,none,none,none,none,none,none,none,none,none,some (.own [.slice (some ⟨68,0,none⟩) 3 4,.slice (some ⟨103,0,none⟩) 3 1,.slice (some ⟨98,0,none⟩) 3 1,.slice (some ⟨100,0,none⟩) 3 1,.bool false] 210),none,none,none,none,some (.own [.bool false,.bool true,.bool false] 4),none,none,none,none,none,none,some (.own [.bool false,.bool false,.bool true] 4),none,none,none,some (.own [.bool true,.bool false,.bool false] 4),none,some (.own [.bool false,.bool false,.bool true] 4),some (.own [.bool false,.bool false,.bool false] 4),none,some (.own [.slice (some ⟨87,0,none⟩) 3 1,.slice (some ⟨94,0,none⟩) 3 1,.slice (some ⟨101,0,none⟩) 3 1] 186),none,some (.own [.pointer (some ⟨82,0,none⟩)] 156)]
theorem run_p : outM 6 (.tuple ⟨[.pointer (some ⟨7,0,none⟩),.nilIface]⟩) es_p (callE tab (xCall xs) Tryz.prog 3000 45 [.slice (some ⟨5,0,none⟩) 1 1] (L1 [61,62,32])) = true := by kernel_rfl
def T_p : Tab := ⟨[⟨2305843009213693952,0,0,0⟩,⟨4611686018427387904,0,0,0⟩,⟨4294967296,0,0,0⟩],[[false,true,false],[false,false,true],[false,false,false]],[true,false,false],[false,false,true],false⟩
theorem wf_p : (∀ r ∈ T_p.next,r.length = T_p.n) ∧ T_p.n ≤ 1000 := by decide
theorem of_p {w0 : World} : OfC w0 [[61,62,32]] True (fun c => c = [(T_p,[])]) := by
  intro m ob Q hp hs hok herr
  obtain ⟨b,rfl⟩ : ∃ b,ob = some b := by
    cases ob with
    | none => have := hs.2; simp at this
    | some b => exact ⟨b,rfl⟩
  have hPR := partR_L1 (p := [61,62,32]) hp hs.lt hs.2.1
  refine AbC_lay (r := fun j => if j = 5 then b else j) (args := [.slice (some ⟨5,0,none⟩) 1 1]) 3000 tab_ok xs_ok hPR rfl run_p fun M hn ho he => ?_
  have hn : M.next = m.next + 100 := hn
  have g6 : M.get (m.next + 0) = .own [.slice none 0 0] 186 := he 0 _ rfl
  have g7 : M.get (m.next + 1) = .own [.slice (some ⟨m.next + 99,0,none⟩) 1 1,.slice (some ⟨m.next + 0,0,none⟩) 1 1,.int .i64 0,.bool false] 146 := he 1 _ rfl
  have g105 : M.get (m.next + 99) = .own [.pointer (some ⟨m.next + 76,0,none⟩)] 156 := he 99 _ rfl
  have g82 : M.get (m.next + 76) = .own [.slice (some ⟨m.next + 62,0,none⟩) 3 4,.slice (some ⟨m.next + 97,0,none⟩) 3 1,.slice (some ⟨m.next + 92,0,none⟩) 3 1,.slice (some ⟨m.next + 94,0,none⟩) 3 1,.bool false] 210 := he 76 _ rfl
  have g68 : M.get (m.next + 62) = .own [.int .u64 2305843009213693952,.int .u64 0,.int .u64 0,.int .u64 0,.int .u64 4611686018427387904,.int .u64 0,.int .u64 0,.int .u64 0,.int .u64 4294967296,.int .u64 0,.int .u64 0,.int .u64 0] 150 := he 62 _ rfl
  have g103 : M.get (m.next + 97) = .own [.slice (some ⟨m.next + 81,0,none⟩) 3 1,.slice (some ⟨m.next + 88,0,none⟩) 3 1,.slice (some ⟨m.next + 95,0,none⟩) 3 1] 186 := he 97 _ rfl
  have g98 : M.get (m.next + 92) = .own [.bool true,.bool false,.bool false] 4 := he 92 _ rfl
  have g100 : M.get (m.next + 94) = .own [.bool false,.bool false,.bool true] 4 := he 94 _ rfl
  have g87 : M.get (m.next + 81) = .own [.bool false,.bool true,.bool false] 4 := he 81 _ rfl
  have g94 : M.get (m.next + 88) = .own [.bool false,.bool false,.bool true] 4 := he 88 _ rfl
  have g101 : M.get (m.next + 95) = .own [.bool false,.bool false,.bool false] 4 := he 95 _ rfl
  refine hok M ⟨m.next + 1,m.next + 0,[⟨m.next + 76,T_p,.slice none 0 0,[]⟩],0,false⟩ ⟨by omega,ho⟩ rfl rfl rfl ?_ (by show m.next ≤ m.next + 1; omega) (by show m.next ≤ m.next + 0; omega)
  show WatV (fun i => m.next ≤ i ∧ i ≠ m.next + 1 ∧ i ≠ m.next + 0) M (m.next + 1) (m.next + 0) [⟨m.next + 76,T_p,.slice none 0 0,[]⟩] 0 false
  have hX : ∀ k : Nat,2 ≤ k → k < 100 → m.next + k < M.next ∧ (m.next ≤ m.next + k ∧ m.next + k ≠ m.next + 1 ∧ m.next + k ≠ m.next + 0) := fun k h1 h2 => ⟨by omega,by omega,by omega,by omega⟩
  refine ⟨⟨_,g7,(RdV.blk (sz := 1) (n := 1) g105 rfl (hX 99 (by decide) (by decide)).1 (hX 99 (by decide) (by decide)).2)⟩,g6,fun w hw => ?_,⟨fun h => h.2.1 rfl,fun h => h.2.2 rfl,by omega,by omega,by omega⟩,by simp,fun i hi => ⟨by omega,by omega,by omega⟩⟩
  rw [List.mem_singleton] at hw
  subst hw
  refine ⟨⟨⟨_,_,_,_,[(.slice (some ⟨m.next + 81,0,none⟩) 3 1,[false,true,false]),(.slice (some ⟨m.next + 88,0,none⟩) 3 1,[false,false,true]),(.slice (some ⟨m.next + 95,0,none⟩) 3 1,[false,false,false])],g82,(RdV.blk (sz := 4) (n := 3) g68 rfl (hX 62 (by decide) (by decide)).1 (hX 62 (by decide) (by decide)).2),rfl,(RdV.blk (sz := 1) (n := 3) g103 rfl (hX 97 (by decide) (by decide)).1 (hX 97 (by decide) (by decide)).2),fun r hr => ?_,(RdV.blk (sz := 1) (n := 3) g98 rfl (hX 92 (by decide) (by decide)).1 (hX 92 (by decide) (by decide)).2),(RdV.blk (sz := 1) (n := 3) g100 rfl (hX 94 (by decide) (by decide)).1 (hX 94 (by decide) (by decide)).2)⟩,hX 76 (by decide) (by decide),⟨rfl,wf_p.1,rfl,rfl,wf_p.2⟩⟩,⟨⟨rfl,.inl ⟨rfl,.inl rfl⟩⟩,fun b hb => by cases hb⟩,by simp⟩
  simp only [List.mem_cons,List.not_mem_nil,or_false] at hr
  rcases hr with rfl | rfl | rfl
  · exact (RdV.blk (sz := 1) (n := 3) g87 rfl (hX 81 (by decide) (by decide)).1 (hX 81 (by decide) (by decide)).2)
  · exact (RdV.blk (sz := 1) (n := 3) g94 rfl (hX 88 (by decide) (by decide)).1 (hX 88 (by decide) (by decide)).2)
  · exact (RdV.blk (sz := 1) (n := 3) g101 rfl (hX 95 (by decide) (by decide)).1 (hX 95 (by decide) (by decide)).2)
end Go.Proofs.YtccjlggpiliilaaGreatDoor.Ab
