/- What a law was handed, typed: slices of bytes. -/
import Derived.Test.YtkpjbpfemkkheaaDoorAbz
import Derived.Test.YtkpjbpfemkkheaaDoorAbe4
import Derived.Test.YtkpjbpfemkkheaaDoorAb21
set_option linter.unusedVariables false
set_option linter.unusedSimpArgs false
namespace Go.Proofs.YtkpjbpfemkkheaaDoor.Ab
open Go Go.RowKit

section
variable {m : Mem}
theorem arg_u8 (d : TD) (c : List Value) (hf : Fits (.int .u8) d) (h : AbsT m d c) : ∃ a : UInt8, c = [byteV a] ∧ True := by
  obtain ⟨n, rfl, rfl, hw⟩ := absT_int h hf
  have hw' : 0 ≤ n ∧ n ≤ 255 := by simpa [Lit.wf, IntKind.min, IntKind.max, IntKind.signed, IntKind.bits] using hw
  refine ⟨UInt8.ofNat n.toNat, ?_, trivial⟩
  have : (UInt8.ofNat n.toNat).toNat = n.toNat := by
    rw [UInt8.toNat_ofNat']; omega
  simp only [byteV, this]
  congr 2; omega
theorem flat_one {α : Type} (f : α → Value) : ∀ l : List α, l.flatMap (fun b => [f b]) = l.map f
  | [] => rfl
  | x :: l => by simp [flat_one f l]
theorem absT_bys {td : TD} {v : Value} (h : AbsT m td [v]) (hs : Fits (.sl (.int .u8)) td) :
    ∃ bs : List UInt8, SlR m 1 v (bs.map byteV) bs.length ∧ (∀ b, blk v = some b → b < m.next) ∧ bs.length + 1 ≤ td.bulk := by
  obtain ⟨l, xs, rfl, h1, h2, h3⟩ := absT_slice (f := fun b : UInt8 => [byteV b]) (z := 1) (R := fun _ _ => True) (fun _ => rfl) arg_u8 h hs
  rw [flat_one byteV] at h1
  refine ⟨xs, h1, h3, ?_⟩
  have := TD.bulks_len l
  rw [h2.length]
  simp [TD.bulk]; omega
theorem sl_max {G : Loc} {v v' : Value} {sz n : Nat} {cs : List Value} (h : SlR m sz v cs n) (hu : VR G v v') : n ≤ maxLen := by
  rcases h.2 with ⟨rfl, _⟩ | ⟨i, o, L, rfl, _⟩
  · exact Nat.zero_le _
  · cases hu with
    | sl _ _ _ _ _ _ c _ _ hn hc => omega
theorem wf_u16 {n : Int} (h : (Lit.int .u16 n).wf = true) : 0 ≤ n ∧ n ≤ 65535 := by
  have : 0 ≤ n ∧ n ≤ 65535 := by simpa [Lit.wf, IntKind.min, IntKind.max, IntKind.signed, IntKind.bits] using h
  exact this
theorem wf_u32 {n : Int} (h : (Lit.int .u32 n).wf = true) : 0 ≤ n ∧ n ≤ 4294967295 := by
  have : 0 ≤ n ∧ n ≤ 4294967295 := by simpa [Lit.wf, IntKind.min, IntKind.max, IntKind.signed, IntKind.bits] using h
  exact this
theorem wf_u8 {n : Int} (h : (Lit.int .u8 n).wf = true) : 0 ≤ n ∧ n ≤ 255 := by
  have : 0 ≤ n ∧ n ≤ 255 := by simpa [Lit.wf, IntKind.min, IntKind.max, IntKind.signed, IntKind.bits] using h
  exact this
theorem wf_i64 {n : Int} (h : (Lit.int .i64 n).wf = true) : -9223372036854775808 ≤ n ∧ n ≤ 9223372036854775807 := by
  have : -9223372036854775808 ≤ n ∧ n ≤ 9223372036854775807 := by simpa [Lit.wf, IntKind.min, IntKind.max, IntKind.signed, IntKind.bits] using h
  exact this
end
end Go.Proofs.YtkpjbpfemkkheaaDoor.Ab
