/- Parts of a proof, put together: The table of the codes, for calls that are reckoned through. -/
import Derived.Test.YtjlicambfepfiaaGreatDoorKDa3
import Derived.Shelf.Strconv.Itoa1
import Derived.Shelf.LaysM
import Derived.Shelf.Strconv.Itoa2
import Derived.Shelf.Strconv.Itoa3
import Derived.Shelf.LaysC
import Derived.Shelf.Strconv.ToError
import Derived.Shelf.Strconv.ToErrorRange
import Derived.Test.YtjlicambfepfiaaGreatDoorProg
import Derived.Lib.AppendIntMem
import Derived.Lib.SplitLaws
import Derived.Lib.TrimByte
import Derived.Lib.IndexBytes
import Derived.Lib.ItoaMem
set_option maxRecDepth 20000
namespace Go.Proofs.YtjlicambfepfiaaGreatDoor.Ab
open Go Go.RowKit
def tab : List TE := [⟨2, 1, rc2, ro2⟩, ⟨3, 44, rc3, ro3⟩, ⟨4, 106, rc4, ro4⟩, ⟨5, 38, rc5, ro5⟩, ⟨6, 22, rc6, ro6⟩, ⟨7, 73, rc7, ro7⟩, ⟨8, 77, rc8, ro8⟩, ⟨9, 117, rc9, ro9⟩, ⟨10, 60, rc10, ro10⟩, ⟨11, 86, rc11, ro11⟩, ⟨12, 51, rc12, ro12⟩, ⟨13, 119, rc13, ro13⟩, ⟨14, 24, rc14, ro14⟩, ⟨15, 24, rc15, ro15⟩, ⟨16, 7, rc16, ro16⟩, ⟨17, 22, rc17, ro17⟩, ⟨18, 53, rc18, ro18⟩, ⟨19, 8, rc19, ro19⟩, ⟨20, 9, rc20, ro20⟩, ⟨21, 17, rc21, ro21⟩, ⟨22, 115, rc22, ro22⟩, ⟨23, 88, rc23, ro23⟩, ⟨24, 47, rc24, ro24⟩, ⟨25, 26, rc25, ro25⟩, ⟨26, 7, rc26, ro26⟩, ⟨27, 45, rc27, ro27⟩, ⟨28, 7, rc28, ro28⟩, ⟨29, 25, rc29, ro29⟩, ⟨30, 62, rc30, ro30⟩, ⟨31, 8, rc31, ro31⟩, ⟨32, 107, rc32, ro32⟩, ⟨33, 8, rc33, ro33⟩, ⟨34, 18, rc34, ro34⟩, ⟨35, 75, rc35, ro35⟩, ⟨36, 103, rc36, ro36⟩, ⟨37, 42, rc37, ro37⟩, ⟨38, 19, rc38, ro38⟩, ⟨39, 100, rc39, ro39⟩, ⟨40, 14, rc40, ro40⟩, ⟨41, 50, rc41, ro41⟩, ⟨42, 51, rc42, ro42⟩, ⟨43, 13, rc43, ro43⟩, ⟨44, 67, rc44, ro44⟩, ⟨45, 55, rc45, ro45⟩, ⟨46, 177, rc46, ro46⟩, ⟨47, 9, rc47, ro47⟩, ⟨48, 59, rc48, ro48⟩, ⟨49, 50, rc49, ro49⟩, ⟨50, 39, rc50, ro50⟩, ⟨51, 2, rc51, ro51⟩, ⟨52, 36, rc52, ro52⟩, ⟨53, 32, rc53, ro53⟩, ⟨54, 8, rc54, ro54⟩, ⟨58, 62, rc58, ro58⟩, ⟨59, 20, rc59, ro59⟩, ⟨60, 75, rc60, ro60⟩, ⟨61, 5, rc61, ro61⟩, ⟨62, 17, rc62, ro62⟩, ⟨63, 108, rc63, ro63⟩, ⟨64, 84, rc64, ro64⟩, ⟨65, 34, rc65, ro65⟩, ⟨66, 33, rc66, ro66⟩, ⟨67, 92, rc67, ro67⟩, ⟨68, 7, rc68, ro68⟩, ⟨69, 7, rc69, ro69⟩, ⟨70, 15, rc70, ro70⟩, ⟨71, 15, rc71, ro71⟩, ⟨72, 9, rc72, ro72⟩, ⟨73, 33, rc73, ro73⟩, ⟨74, 9, rc74, ro74⟩, ⟨75, 59, rc75, ro75⟩, ⟨76, 61, rc76, ro76⟩, ⟨77, 8, rc77, ro77⟩, ⟨82, 25, rc82, ro82⟩, ⟨83, 5, rc83, ro83⟩, ⟨84, 14, rc84, ro84⟩, ⟨85, 43, rc85, ro85⟩, ⟨86, 13, rc86, ro86⟩, ⟨87, 8, rc87, ro87⟩, ⟨88, 132, rc88, ro88⟩, ⟨89, 8, rc89, ro89⟩, ⟨90, 26, rc90, ro90⟩, ⟨91, 8, rc91, ro91⟩, ⟨92, 8, rc92, ro92⟩, ⟨93, 30, rc93, ro93⟩, ⟨94, 54, rc94, ro94⟩, ⟨95, 40, rc95, ro95⟩, ⟨96, 20, rc96, ro96⟩, ⟨97, 27, rc97, ro97⟩, ⟨98, 26, rc98, ro98⟩, ⟨99, 7, rc99, ro99⟩, ⟨100, 18, rc100, ro100⟩, ⟨101, 172, rc101, ro101⟩, ⟨102, 43, rc102, ro102⟩, ⟨103, 32, rc103, ro103⟩, ⟨106, 15, rc106, ro106⟩, ⟨107, 15, rc107, ro107⟩, ⟨108, 167, rc108, ro108⟩, ⟨109, 102, rc109, ro109⟩, ⟨110, 60, rc110, ro110⟩, ⟨111, 5, rc111, ro111⟩, ⟨112, 94, rc112, ro112⟩, ⟨113, 11, rc113, ro113⟩, ⟨114, 11, rc114, ro114⟩, ⟨115, 16, rc115, ro115⟩, ⟨116, 16, rc116, ro116⟩, ⟨117, 6, rc117, ro117⟩, ⟨118, 25, rc118, ro118⟩, ⟨119, 4, rc119, ro119⟩, ⟨120, 8, rc120, ro120⟩, ⟨121, 8, rc121, ro121⟩, ⟨122, 102, rc122, ro122⟩, ⟨123, 18, rc123, ro123⟩, ⟨124, 7, rc124, ro124⟩, ⟨125, 14, rc125, ro125⟩, ⟨126, 14, rc126, ro126⟩, ⟨127, 107, rc127, ro127⟩, ⟨128, 58, rc128, ro128⟩, ⟨148, 6, rc148, ro148⟩, ⟨167, 7, rc167, ro167⟩, ⟨178, 8, rc178, ro178⟩]
theorem tab_ok : TOk Tryz.prog tab := by
  intro t ht
  simp only [tab, List.mem_cons, List.mem_nil_iff, or_false] at ht
  rcases ht with rfl | rfl | rfl | rfl | rfl | rfl | rfl | rfl | rfl | rfl | rfl | rfl | rfl | rfl | rfl | rfl | rfl | rfl | rfl | rfl | rfl | rfl | rfl | rfl | rfl | rfl | rfl | rfl | rfl | rfl | rfl | rfl | rfl | rfl | rfl | rfl | rfl | rfl | rfl | rfl | rfl | rfl | rfl | rfl | rfl | rfl | rfl | rfl | rfl | rfl | rfl | rfl | rfl | rfl | rfl | rfl | rfl | rfl | rfl | rfl | rfl | rfl | rfl | rfl | rfl | rfl | rfl | rfl | rfl | rfl | rfl | rfl | rfl | rfl | rfl | rfl | rfl | rfl | rfl | rfl | rfl | rfl | rfl | rfl | rfl | rfl | rfl | rfl | rfl | rfl | rfl | rfl | rfl | rfl | rfl | rfl | rfl | rfl | rfl | rfl | rfl | rfl | rfl | rfl | rfl | rfl | rfl | rfl | rfl | rfl | rfl | rfl | rfl | rfl | rfl | rfl | rfl | rfl | rfl | rfl | rfl
  · exact ⟨_, ok2⟩
  · exact ⟨_, ok3⟩
  · exact ⟨_, ok4⟩
  · exact ⟨_, ok5⟩
  · exact ⟨_, ok6⟩
  · exact ⟨_, ok7⟩
  · exact ⟨_, ok8⟩
  · exact ⟨_, ok9⟩
  · exact ⟨_, ok10⟩
  · exact ⟨_, ok11⟩
  · exact ⟨_, ok12⟩
  · exact ⟨_, ok13⟩
  · exact ⟨_, ok14⟩
  · exact ⟨_, ok15⟩
  · exact ⟨_, ok16⟩
  · exact ⟨_, ok17⟩
  · exact ⟨_, ok18⟩
  · exact ⟨_, ok19⟩
  · exact ⟨_, ok20⟩
  · exact ⟨_, ok21⟩
  · exact ⟨_, ok22⟩
  · exact ⟨_, ok23⟩
  · exact ⟨_, ok24⟩
  · exact ⟨_, ok25⟩
  · exact ⟨_, ok26⟩
  · exact ⟨_, ok27⟩
  · exact ⟨_, ok28⟩
  · exact ⟨_, ok29⟩
  · exact ⟨_, ok30⟩
  · exact ⟨_, ok31⟩
  · exact ⟨_, ok32⟩
  · exact ⟨_, ok33⟩
  · exact ⟨_, ok34⟩
  · exact ⟨_, ok35⟩
  · exact ⟨_, ok36⟩
  · exact ⟨_, ok37⟩
  · exact ⟨_, ok38⟩
  · exact ⟨_, ok39⟩
  · exact ⟨_, ok40⟩
  · exact ⟨_, ok41⟩
  · exact ⟨_, ok42⟩
  · exact ⟨_, ok43⟩
  · exact ⟨_, ok44⟩
  · exact ⟨_, ok45⟩
  · exact ⟨_, ok46⟩
  · exact ⟨_, ok47⟩
  · exact ⟨_, ok48⟩
  · exact ⟨_, ok49⟩
  · exact ⟨_, ok50⟩
  · exact ⟨_, ok51⟩
  · exact ⟨_, ok52⟩
  · exact ⟨_, ok53⟩
  · exact ⟨_, ok54⟩
  · exact ⟨_, ok58⟩
  · exact ⟨_, ok59⟩
  · exact ⟨_, ok60⟩
  · exact ⟨_, ok61⟩
  · exact ⟨_, ok62⟩
  · exact ⟨_, ok63⟩
  · exact ⟨_, ok64⟩
  · exact ⟨_, ok65⟩
  · exact ⟨_, ok66⟩
  · exact ⟨_, ok67⟩
  · exact ⟨_, ok68⟩
  · exact ⟨_, ok69⟩
  · exact ⟨_, ok70⟩
  · exact ⟨_, ok71⟩
  · exact ⟨_, ok72⟩
  · exact ⟨_, ok73⟩
  · exact ⟨_, ok74⟩
  · exact ⟨_, ok75⟩
  · exact ⟨_, ok76⟩
  · exact ⟨_, ok77⟩
  · exact ⟨_, ok82⟩
  · exact ⟨_, ok83⟩
  · exact ⟨_, ok84⟩
  · exact ⟨_, ok85⟩
  · exact ⟨_, ok86⟩
  · exact ⟨_, ok87⟩
  · exact ⟨_, ok88⟩
  · exact ⟨_, ok89⟩
  · exact ⟨_, ok90⟩
  · exact ⟨_, ok91⟩
  · exact ⟨_, ok92⟩
  · exact ⟨_, ok93⟩
  · exact ⟨_, ok94⟩
  · exact ⟨_, ok95⟩
  · exact ⟨_, ok96⟩
  · exact ⟨_, ok97⟩
  · exact ⟨_, ok98⟩
  · exact ⟨_, ok99⟩
  · exact ⟨_, ok100⟩
  · exact ⟨_, ok101⟩
  · exact ⟨_, ok102⟩
  · exact ⟨_, ok103⟩
  · exact ⟨_, ok106⟩
  · exact ⟨_, ok107⟩
  · exact ⟨_, ok108⟩
  · exact ⟨_, ok109⟩
  · exact ⟨_, ok110⟩
  · exact ⟨_, ok111⟩
  · exact ⟨_, ok112⟩
  · exact ⟨_, ok113⟩
  · exact ⟨_, ok114⟩
  · exact ⟨_, ok115⟩
  · exact ⟨_, ok116⟩
  · exact ⟨_, ok117⟩
  · exact ⟨_, ok118⟩
  · exact ⟨_, ok119⟩
  · exact ⟨_, ok120⟩
  · exact ⟨_, ok121⟩
  · exact ⟨_, ok122⟩
  · exact ⟨_, ok123⟩
  · exact ⟨_, ok124⟩
  · exact ⟨_, ok125⟩
  · exact ⟨_, ok126⟩
  · exact ⟨_, ok127⟩
  · exact ⟨_, ok128⟩
  · exact ⟨_, ok148⟩
  · exact ⟨_, ok167⟩
  · exact ⟨_, ok178⟩
theorem fnd81 : Extern.findNext Tryz.f81 = none := by kernel_rfl
theorem xis81 : xIs Tryz.prog 81 .same := ⟨Tryz.f81, _, Tryz.func81, by kernel_rfl, by kernel_rfl, fnd81, (by kernel_rfl : Extern.find Tryz.f81 = some Extern.AbiNoEscape.same), rfl⟩
theorem fnd105 : Extern.findNext Tryz.f105 = none := by kernel_rfl
theorem xis105 : xIs Tryz.prog 105 (.mnz 5) := ⟨Tryz.f105, _, Tryz.func105, by kernel_rfl, by kernel_rfl, fnd105, (by kernel_rfl : Extern.find Tryz.f105 = some (Extern.BytealgMakeNoZero.makeNoZero #[3] #[51])), _, _, rfl, by kernel_rfl⟩
theorem fnd104 : Extern.findNext Tryz.f104 = none := by kernel_rfl
theorem xis104 : xIs Tryz.prog 104 .idx := ⟨Tryz.f104, _, Tryz.func104, by kernel_rfl, by kernel_rfl, fnd104, (by kernel_rfl : Extern.find Tryz.f104 = some Extern.BytealgIndexByte.indexByte), rfl⟩
def xs : List (FuncId × XK) := [(81, .same), (105, .mnz 5), (104, .idx)]
theorem xs_ok : XOk Tryz.prog (xCall xs) := xCall_ok (by
  intro x hx
  simp only [xs, List.mem_cons, List.mem_nil_iff, or_false] at hx
  rcases hx with rfl | rfl | rfl
  · exact xis81
  · exact xis105
  · exact xis104)
end Go.Proofs.YtjlicambfepfiaaGreatDoor.Ab

set_option linter.unusedVariables false
set_option linter.unusedSimpArgs false
set_option maxHeartbeats 4000000
set_option maxRecDepth 100000
namespace Go.Proofs.YtjlicambfepfiaaGreatDoor.Ab
open Go Go.RowKit

def z32 : List Int := [0, 1, 28, 2, 29, 14, 24, 3, 30, 22, 20, 15, 25, 17, 4, 8, 31, 27, 13, 23, 21, 19, 16, 7, 26, 12, 18, 6, 11, 5, 10, 9]
def z64 : List Int := [0, 1, 56, 2, 57, 49, 28, 3, 61, 58, 42, 50, 38, 29, 17, 4, 62, 47, 59, 36, 45, 43, 51, 22, 53, 39, 33, 30, 24, 18, 12, 5, 63, 55, 48, 27, 60, 41, 37, 16, 46, 35, 44, 21, 52, 32, 23, 11, 54, 26, 40, 15, 34, 20, 31, 10, 25, 14, 19, 9, 13, 8, 7, 6]
def z10 : List Int := [1, 10, 100, 1000, 10000, 100000, 1000000, 10000000, 100000000, 1000000000, 10000000000, 100000000000, 1000000000000, 10000000000000, 100000000000000, 1000000000000000, 10000000000000000, 100000000000000000, 1000000000000000000, 10000000000000000000]
def e32 : List Value := z32.map fun z => .int .u8 z
def e64 : List Value := z64.map fun z => .int .u8 z
def e10 : List Value := z10.map fun z => .int .u64 z
def gs0 : List (Nat × List Value) := [(5, e32), (6, e64), (2, e10)]
def L0 : LM := ⟨7, (.n (.n (.n (.n (.n .dead .dead (.ro e10) .dead .dead (.ro e32) (.ro e64) .dead) .e .e .e .e .e .e .e) .e .e .e .e .e .e .e) .e .e .e .e .e .e .e) .e .e .e .e .e .e .e)⟩
theorem globals_size : Tryz.prog.globals.size = L0.n := by kernel_rfl
theorem L0_get (i : Nat) : L0.get i = entOf gs0 i := by
  by_cases h : i < 7
  · have : i = 0 ∨ i = 1 ∨ i = 2 ∨ i = 3 ∨ i = 4 ∨ i = 5 ∨ i = 6 := by omega
    rcases this with rfl | rfl | rfl | rfl | rfl | rfl | rfl <;> rfl
  · rw [LM.get_ge h]
    have n5 : (i == 5) = false := by simp; omega
    have n6 : (i == 6) = false := by simp; omega
    have n2 : (i == 2) = false := by simp; omega
    simp [entOf, gs0, List.lookup_cons, n5, n6, n2]
theorem laid_ok : laidB Tryz.prog gs0 = true := by kernel_rfl
theorem L0_part : partB L0 = true := by kernel_rfl
theorem laidIn {W : World} {l : List (String × DataW Unit)} (h : laidMet Tryz.prog l W) (h1 : ("math/bits.deBruijn32tab", Lib.tabData .u8 z32) ∈ l) (h2 : ("math/bits.deBruijn64tab", Lib.tabData .u8 z64) ∈ l) (h3 : ("internal/strconv.uint64pow10", Lib.tabData .u64 z10) ∈ l) : LaidIn Tryz.prog W gs0 where
  cell := by
    intro x hx
    simp only [gs0, List.mem_cons, List.mem_nil_iff, or_false] at hx
    rcases hx with rfl | rfl | rfl
    · exact laid_tab h h1 (by kernel_rfl) (by kernel_rfl) Tryz.underlying227 Tryz.underlying5 (by kernel_rfl) (by kernel_rfl)
    · exact laid_tab h h2 (by kernel_rfl) (by kernel_rfl) Tryz.underlying228 Tryz.underlying5 (by kernel_rfl) (by kernel_rfl)
    · exact laid_tab h h3 (by kernel_rfl) (by kernel_rfl) Tryz.underlying211 Tryz.underlying71 (by kernel_rfl) (by kernel_rfl)

theorem awk : outIs (.bool true) (callE tab (xCall xs) Tryz.prog 3000 12 [] L0) = true := by kernel_rfl
theorem c_awake {w0 : World} {m : Mem} {Q : Value → Mem → Prop} (hp : Part L0 m) (hq : Q (.bool true) m) : AbC Tryz.prog w0 12 [] m Q :=
  AbC_run 3000 tab_ok xs_ok hp (Nat.le_of_eq globals_size) rfl awk rfl hq
end Go.Proofs.YtjlicambfepfiaaGreatDoor.Ab

set_option linter.unusedVariables false
set_option linter.unusedSimpArgs false
namespace Go.Proofs.YtjlicambfepfiaaGreatDoor.Ab
open Go Go.RowKit
set_option maxHeartbeats 4000000
set_option maxRecDepth 100000

theorem closed {w0 : World} {m : Mem} {f : FuncId} {args : List Value} {v : Value} {Q : Value → Mem → Prop} {n : Nat} (hp : Part L0 m) (ha : args.all (plainV 6) = true) (h : outIs v (callE tab (xCall xs) Tryz.prog n f args L0) = true) (hv : plainV 6 v = true) (hq : Q v m) : AbC Tryz.prog w0 f args m Q :=
  AbC_run n tab_ok xs_ok hp (Nat.le_of_eq globals_size) ha h hv hq

/-- The sign of a digit. -/
def digC (d : Nat) : UInt8 := if d < 10 then UInt8.ofNat (48 + d) else UInt8.ofNat (87 + d)
/-- A number's digits in a base. -/
def digs (b n : Nat) : List UInt8 := if h : n < b ∨ b < 2 then [digC n] else digs b (n / b) ++ [digC (n % b)]
termination_by n
decreasing_by exact Nat.div_lt_self (by omega) (by omega)
theorem digs_lt {b n : Nat} (h : n < b) : digs b n = [digC n] := by rw [digs, dif_pos (.inl h)]
theorem digs_ge {b n : Nat} (hb : 2 ≤ b) (h : b ≤ n) : digs b n = digs b (n / b) ++ [digC (n % b)] := by rw [digs, dif_neg (by omega)]
theorem digs_pos (b n : Nat) : 1 ≤ (digs b n).length := by
  rw [digs]; split <;> simp
theorem digs_len {b : Nat} (hb : 2 ≤ b) : ∀ (L n : Nat), n < b ^ L → (digs b n).length ≤ max L 1
  | 0, n, h => by
    have : n < b := by simp at h; omega
    rw [digs_lt this]; simp
  | L + 1, n, h => by
    by_cases hn : n < b
    · rw [digs_lt hn]; simp
    · rw [digs_ge hb (by omega)]
      have h1 : n / b < b ^ L := by
        rw [Nat.div_lt_iff_lt_mul (by omega)]
        rw [Nat.pow_succ] at h; exact h
      have := digs_len hb L (n / b) h1
      simp only [List.length_append, List.length_cons, List.length_nil]
      by_cases hL : L = 0
      · subst hL
        exfalso
        simp at h; omega
      · omega
theorem digs_64 {b n : Nat} (hb : 8 ≤ b) (h : n < 18446744073709551616) : (digs b n).length ≤ 22 := by
  have h1 : (8 : Nat) ^ 22 ≤ b ^ 22 := Nat.pow_le_pow_left hb 22
  have h2 : (8 : Nat) ^ 22 = 73786976294838206464 := by decide
  have := digs_len (show 2 ≤ b by omega) 22 n (by omega)
  simpa using this

def digitsS : ByteArray := ⟨#[48, 49, 50, 51, 52, 53, 54, 55, 56, 57, 97, 98, 99, 100, 101, 102, 103, 104, 105, 106, 107, 108, 109, 110, 111, 112, 113, 114, 115, 116, 117, 118, 119, 120, 121, 122]⟩
theorem digitsS_at : ∀ d : Fin 36, digitsS[d.val]? = some (digC d.val) := by decide +kernel
theorem dAnd {u k : Nat} (hu : u < 18446744073709551616) (hk : k ≤ 63) {z : Int} (hz : z = ((2 ^ k - 1 : Nat) : Int)) : dBin .and (.int .u64 (u : Int)) (.int .u64 z) = some (.int .u64 ((u % 2 ^ k : Nat) : Int)) := by
  subst hz
  have h2 : (2 : Nat) ^ k ≤ 2 ^ 63 := Nat.pow_le_pow_right (by omega) hk
  have hp : 0 < (2 : Nat) ^ k := Nat.pow_pos (by omega)
  have h1 := binI_eq (op := .and) (k := .u64) (a := Int.ofNat u) (b := Int.ofNat (2 ^ k - 1)) (v := .int .u64 (IntKind.u64.wrap (Int.ofNat (Nat.land u (2 ^ k - 1))))) (by
    simp only [binI, bitI]
    rw [blt_true.2 (show u < kTop .u64 by simpa [kTop] using hu), blt_true.2 (show 2 ^ k - 1 < kTop .u64 by simp only [kTop]; omega)]
    simp only [wrapF_eq])
  have h3 : Nat.land u (2 ^ k - 1) = u % 2 ^ k := Nat.and_two_pow_sub_one_eq_mod u k
  have h4 : u % 2 ^ k < 2 ^ k := Nat.mod_lt _ hp
  have h5 : IntKind.u64.wrap (Int.ofNat (u % 2 ^ k)) = ((u % 2 ^ k : Nat) : Int) := by rw [IntWalk.u64_in]; rfl; simp only [Int.ofNat_eq_natCast]; omega
  rw [h3, h5] at h1
  exact h1
theorem dShr {u k : Nat} (hk : k ≤ 63) {z : Int} (hz : z = (k : Int)) : dBin .shr (.int .u64 (u : Int)) (.int .u64 z) = some (.int .u64 ((u / 2 ^ k : Nat) : Int)) := by
  subst hz
  have h1 := shI_eq (op := .shr) (k := .u64) (k' := .u64) (a := Int.ofNat u) (b := Int.ofNat k) (v := .int .u64 (Int.ofNat (Nat.shiftRight u k))) (by
    simp only [shI]
    rw [Nat.ble_eq_true_of_le (show k ≤ kBits .u64 by simp only [kBits]; omega)])
  have h2 : Nat.shiftRight u k = u / 2 ^ k := Nat.shiftRight_eq_div_pow u k
  rw [h2] at h1
  exact h1

/-- The last digit's place: cells with one more written ahead of the rest. -/
theorem putAt_ahead {cs : List Value} {t : List UInt8} {c : UInt8} (hl : cs.length = 65) (ht : t.length < 65) (hd : cs.drop (65 - t.length) = t.map byteV) :
    (putAt cs (65 - t.length - 1) [.int .u8 c.toNat]).length = 65 ∧ (putAt cs (65 - t.length - 1) [.int .u8 c.toNat]).drop (65 - (c :: t).length) = (c :: t).map byteV := by
  have e1 : 65 - (c :: t).length = 65 - t.length - 1 := by simp; omega
  have e2 : 65 - t.length - 1 + 1 = 65 - t.length := by omega
  have h9 : (cs.drop (65 - t.length)).length = t.length := by rw [hd]; simp
  refine ⟨by simp only [putAt, List.length_append, List.length_take, List.length_cons, List.length_nil, Nat.zero_add, e2, h9, hl]; omega, ?_⟩
  rw [e1]
  simp only [putAt, List.length_cons, List.length_nil, Nat.zero_add, e2, hd]
  rw [List.append_assoc, List.drop_append, List.length_take]
  rw [show min (65 - t.length - 1) cs.length = 65 - t.length - 1 from by omega, Nat.sub_self]
  rw [List.drop_eq_nil_of_le (by rw [List.length_take]; omega)]
  simp [byteV]

theorem bytesOf_mapN : ∀ (l : List UInt8), bytesOf (l.map byteV) = some l
  | [] => rfl
  | b :: l => by
    show (bytesOf (l.map byteV)).map (UInt8.ofNat ((b.toNat : Int).toNat) :: ·) = _
    rw [bytesOf_mapN l]
    simp
theorem bstr_tail {m : Mem} {i J : Nat} {e : TypeId} {cs : List Value} {t : List UInt8} (hg : m.get i = .own cs e) (hl : cs.length = 65) (hJ : 65 - t.length = J) (ht : t.length ≤ 65) (hd : cs.drop (65 - t.length) = t.map byteV) :
    bstr m (.slice (some ⟨i, J, none⟩) (65 - J) 1) = some (.string ⟨⟨t⟩⟩) := by
  rw [hJ] at hd
  have h1 : (cs.drop J).take (65 - J) = t.map byteV := by rw [hd]; exact List.take_of_length_le (by simp; omega)
  simp only [bstr, Mem.row_own hg]
  rw [if_pos (by omega), h1]
  simp only [bytesOf_mapN]

/-- What the sign adds. -/
def sgn (neg : Bool) : List UInt8 := if neg then [45] else []

theorem c_fmtTail {w0 : World} {m m1 : Mem} {ts : Fr} {B k a i : Nat} {neg : Bool} {Q : Value → Mem → Prop} {zs : List Value} (hp : Part L0 m1) (ho : Old m m1) (hi : m.next ≤ i) (hi2 : i < m1.next) (hz : m1.get i = .own zs 213) (hzl : zs.length = 65)
    (hB : B = 2 ^ k) (hk : 3 ≤ k ∧ k ≤ 5) (hB2 : 8 ≤ B) (hB3 : B ≤ 32) (ha : a < 18446744073709551616)
    (t1 : ts 1 = .int .u64 (a : Int)) (t2 : ts 2 = .int .i64 (B : Int)) (t3 : ts 3 = .bool neg) (t4 : ts 4 = .bool false) (t10 : ts 10 = .slice none 0 0) (t12 : ts 12 = .pointer (some ⟨i, 0, none⟩)) (t13 : ts 13 = .int .i64 65)
    (h1 : outIs (.bool true) (callE tab (xCall xs) Tryz.prog 50 120 [.int .i64 (B : Int)] L0) = true)
    (h2 : outIs (.int .i64 (k : Int)) (callE tab (xCall xs) Tryz.prog 50 121 [.int .u64 (B : Int)] L0) = true)
    (hq : ∀ m', Old m m' → Q (.tuple ⟨[.slice none 0 0, .string ⟨⟨sgn neg ++ digs B a⟩⟩]⟩) m') :
    AbW Tryz.prog w0 rc109_9 (bodyA ro109 Q) ts m1 := by
  have wB : IntKind.u64.wrap (B : Int) = B := IntWalk.u64_in _ (by omega)
  have wk : IntKind.u64.wrap (k : Int) = k := IntWalk.u64_in _ (by omega)
  have wB1 : IntKind.u64.wrap ((B : Int) - 1) = (B : Int) - 1 := IntWalk.u64_in _ (by omega)
  simp -implicitDefEqProofs (disch := first | assumption | (simp only [wnA]; done) | (simp only [wnA]; omega) | omega | fail) [rc109_9, ro109, wkA, retV, stabOk, dC, ev, fillD, pickCells, putAt, bnd, slD, List.getElem?_cons_zero, List.getElem?_cons_succ, dR.eq_20, Mem.cell, Mem.row, wmA, t2]
  refine closed hp rfl h1 rfl ?_
  simp -implicitDefEqProofs (disch := first | assumption | (simp only [wnA]; done) | (simp only [wnA]; omega) | omega | fail) [wkA, retV, stabOk, dC, ev, fillD, pickCells, putAt, bnd, slD, List.getElem?_cons_zero, List.getElem?_cons_succ, dR.eq_20, Mem.cell, Mem.row, wmA, t2, wB]
  refine closed hp rfl h2 rfl ?_
  simp -implicitDefEqProofs (disch := first | assumption | (simp only [wnA]; done) | (simp only [wnA]; omega) | omega | fail) [wkA, retV, stabOk, dC, ev, fillD, pickCells, putAt, bnd, slD, List.getElem?_cons_zero, List.getElem?_cons_succ, dR.eq_20, Mem.cell, Mem.row, wmA, t2, wB, wk, wB1]
  have hlen := digs_64 hB2 ha
  refine LoopW_of (fun n ts' m' => ∃ (u : Nat) (t : List UInt8) (cs : List Value), u = n ∧ u ≤ a ∧ digs B a = digs B u ++ t ∧ Old m m' ∧ m'.get i = .own cs 213 ∧ cs.length = 65 ∧ cs.drop (65 - t.length) = t.map byteV ∧
      ts' 1 = .int .u64 (u : Int) ∧ ts' 3 = .bool neg ∧ ts' 4 = .bool false ∧ ts' 10 = .slice none 0 0 ∧ ts' 12 = .pointer (some ⟨i, 0, none⟩) ∧ ts' 13 = .int .i64 ((65 - t.length : Nat) : Int) ∧ ts' 14 = .int .u64 (k : Int) ∧ ts' 15 = .int .u64 (B : Int) ∧ ts' 16 = .int .u64 ((B : Int) - 1)) a ?_ ?_
  · exact ⟨a, [], zs, rfl, Nat.le_refl _, by simp, ho, hz, hzl, by simp [hzl], by simp [t1], by simp [t3], by simp [t4], by simp [t10], by simp [t12], by simp [t13], by simp, by simp, by simp⟩
  · rintro n ts' m' K ⟨u, t, cs, rfl, hua, hd, o', g', hl, hdr, s1, s3, s4, s10, s12, s13, s14, s15, s16⟩ hK
    have hdl := congrArg List.length hd
    simp only [List.length_append] at hdl
    have hpos := digs_pos B u
    have htl : t.length < 65 := by omega
    have eI : ((65 - t.length : Nat) : Int) - 1 = ((65 - t.length - 1 : Nat) : Int) := by omega
    have wI : IntKind.i64.wrap (((65 - t.length : Nat) : Int) - 1) = ((65 - t.length - 1 : Nat) : Int) := by rw [eI]; exact w64 (by omega)
    have hin : (0 : Int) ≤ ((65 - t.length - 1 : Nat) : Int) ∧ ((65 - t.length - 1 : Nat) : Int) < 65 := by omega
    have hu64 : u < 18446744073709551616 := by omega
    generalize hJ : 65 - t.length - 1 = J at *
    have hmod : u % B < 36 := Nat.lt_of_lt_of_le (Nat.mod_lt _ (by omega)) (by omega)
    have kA : dBin .and (.int .u64 (u : Int)) (.int .u64 ((B : Int) - 1)) = some (.int .u64 ((u % B : Nat) : Int)) := by
      have := dAnd (u := u) (k := k) hu64 (by omega) (z := (B : Int) - 1) (by rw [hB]; have : 0 < 2 ^ k := Nat.pow_pos (by omega); omega)
      rw [← hB] at this; exact this
    have kS : dBin .shr (.int .u64 (u : Int)) (.int .u64 (k : Int)) = some (.int .u64 ((u / B : Nat) : Int)) := by
      have := dShr (u := u) (k := k) (by omega) (z := (k : Int)) rfl
      rw [← hB] at this; exact this
    have kX := digitsS_at ⟨u % B, hmod⟩
    simp only [digitsS] at kX
    have m0 : (0 : Int) ≤ ((u % B : Nat) : Int) := by omega
    have hcoe : (((u % B : Nat) : Int)).toNat = u % B := Int.toNat_natCast _
    have hJl : J + 1 ≤ cs.length := by omega
    simp -implicitDefEqProofs (disch := first | assumption | (simp only [wnA]; done) | (simp only [wnA]; omega) | omega | fail) [rc109_1, wkA, retV, stabOk, dC, ev, fillD, pickCells, putAt, bnd, slD, List.getElem?_cons_zero, List.getElem?_cons_succ, dR.eq_20, Mem.cell, Mem.row, wmA, s1, s15]
    by_cases hBu : B ≤ u
    · generalize hM : u % B = M at *
      simp -implicitDefEqProofs (disch := first | assumption | (simp only [wnA]; done) | (simp only [wnA]; omega) | omega | fail) [rc109_0, wkA, retV, stabOk, dC, ev, fillD, pickCells, putAt, bnd, slD, List.getElem?_cons_zero, List.getElem?_cons_succ, dR.eq_20, Mem.cell, Mem.row, wmA, s1, s12, s13, s14, s15, s16, hBu, wI, kA, kS, kX, m0, hin]
      refine SK_st (i := i) (o := J) (by simp [wkA, retV, stabOk, dC, ev, fillD, pickCells, putAt, bnd, slD, List.getElem?_cons_zero, List.getElem?_cons_succ, dR.eq_20]) (e := 213) g' (by omega) (by simp [wkA, retV, stabOk, dC, ev, fillD, pickCells, putAt, bnd, slD, List.getElem?_cons_zero, List.getElem?_cons_succ, dR.eq_20]) (by simp [wkA, retV, stabOk, dC, ev, fillD, pickCells, putAt, bnd, slD, List.getElem?_cons_zero, List.getElem?_cons_succ, dR.eq_20, oneC]) ?_
      simp -implicitDefEqProofs (disch := first | assumption | (simp only [wnA]; done) | (simp only [wnA]; omega) | omega | fail) [wkA, retV, stabOk, dC, ev, fillD, pickCells, putAt, bnd, slD, List.getElem?_cons_zero, List.getElem?_cons_succ, dR.eq_20, Mem.cell, Mem.row, wmA, s1, s14, kS]
      have hpa := putAt_ahead (c := digC M) hl htl hdr
      rw [hJ] at hpa
      have hpe : putAt cs J [.int .u8 (digC M).toNat] = cs.take J ++ .int .u8 (digC M).toNat :: cs.drop (J + 1) := by simp [putAt]
      rw [← hpe]
      refine hK (u / B) _ _ (Nat.div_lt_self (by omega) (by omega)) ⟨u / B, digC M :: t, _, rfl, Nat.le_trans (Nat.div_le_self _ _) hua, ?_, o'.set hi _, by simp, hpa.1, hpa.2, by simp, by simp [s3], by simp [s4], by simp [s10], by simp [s12], ?_, by simp [s14], by simp [s15], by simp [s16]⟩
      · rw [hd, digs_ge (by omega) hBu, hM]; simp
      · have : 65 - (digC M :: t).length = J := by simp; omega
        rw [this]; simp
    · have hub : u < 36 := by omega
      have kY := digitsS_at ⟨u, hub⟩
      simp only [digitsS] at kY
      have m1' : (0 : Int) ≤ (u : Int) := by omega
      simp -implicitDefEqProofs (disch := first | assumption | (simp only [wnA]; done) | (simp only [wnA]; omega) | omega | fail) [rc109_2, wkA, retV, stabOk, dC, ev, fillD, pickCells, putAt, bnd, slD, List.getElem?_cons_zero, List.getElem?_cons_succ, dR.eq_20, Mem.cell, Mem.row, wmA, s1, s12, s13, s14, s15, s16, hBu, wI, kY, m1', hin]
      refine SK_st (i := i) (o := J) (by simp [wkA, retV, stabOk, dC, ev, fillD, pickCells, putAt, bnd, slD, List.getElem?_cons_zero, List.getElem?_cons_succ, dR.eq_20]) (e := 213) g' (by omega) (by simp [wkA, retV, stabOk, dC, ev, fillD, pickCells, putAt, bnd, slD, List.getElem?_cons_zero, List.getElem?_cons_succ, dR.eq_20]) (by simp [wkA, retV, stabOk, dC, ev, fillD, pickCells, putAt, bnd, slD, List.getElem?_cons_zero, List.getElem?_cons_succ, dR.eq_20, oneC]) ?_
      have hpa := putAt_ahead (c := digC u) hl htl hdr
      rw [hJ] at hpa
      have hpe : putAt cs J [.int .u8 (digC u).toNat] = cs.take J ++ .int .u8 (digC u).toNat :: cs.drop (J + 1) := by simp [putAt]
      have hfull : digs B a = digC u :: t := by rw [hd, digs_lt (by omega)]; simp
      simp -implicitDefEqProofs (disch := first | assumption | (simp only [wnA]; done) | (simp only [wnA]; omega) | omega | fail) [wkA, retV, stabOk, dC, ev, fillD, pickCells, putAt, bnd, slD, List.getElem?_cons_zero, List.getElem?_cons_succ, dR.eq_20, Mem.cell, Mem.row, wmA]
      rw [← hpe]
      obtain ⟨p1, p2⟩ := hpa
      generalize putAt cs J [.int .u8 (digC u).toNat] = cs2 at *
      rw [hfull] at hlen hq
      have hJ2 : 65 - (digC u :: t).length = J := by simp; omega
      have hlen2 : t.length + 1 ≤ 22 := by simpa using hlen
      cases neg with
      | false =>
        have eL : (0 : Int) ≤ (J : Int) ∧ (J : Int) ≤ 65 := by omega
        have eJ0 : J ≠ 0 := by omega
        have eJ65 : J ≠ 65 := by omega
        have hrow : (cs2.drop J).take (65 - J) = (digC u :: t).map byteV := by rw [← hJ2, p2]; exact List.take_of_length_le (by simp; omega)
        simp -implicitDefEqProofs (disch := first | assumption | (simp only [wnA]; done) | (simp only [wnA]; omega) | omega | fail) [rc109_8, rc109_7, rc109_6, wkA, retV, stabOk, dC, ev, fillD, pickCells, putAt, bnd, slD, List.getElem?_cons_zero, List.getElem?_cons_succ, dR.eq_20, Mem.cell, Mem.row, wmA, s3, s4, s10, s12, p1, eL]
        rw [bstr_tail (e := 213) (t := digC u :: t) (by simp) p1 hJ2 (by simp; omega) p2]
        simp -implicitDefEqProofs (disch := first | assumption | (simp only [wnA]; done) | (simp only [wnA]; omega) | omega | fail) [wkA, retV, stabOk, dC, ev, fillD, pickCells, putAt, bnd, slD, List.getElem?_cons_zero, List.getElem?_cons_succ, dR.eq_20, Mem.cell, Mem.row, wmA, s10]
        have := hq _ (o'.set hi (.own cs2 213))
        simpa [sgn] using this
      | true =>
        have hlt2 : (digC u :: t).length < 65 := by simp; omega
        have eJ1 : (J : Int) - 1 = ((J - 1 : Nat) : Int) := by omega
        have wJ : IntKind.i64.wrap ((J : Int) - 1) = ((J - 1 : Nat) : Int) := by rw [eJ1]; exact w64 (by omega)
        have hin2 : (0 : Int) ≤ ((J - 1 : Nat) : Int) ∧ ((J - 1 : Nat) : Int) < 65 := by omega
        have hp3 := putAt_ahead (c := 45) p1 hlt2 p2
        rw [hJ2] at hp3
        obtain ⟨p3, p4⟩ := hp3
        generalize hK2 : J - 1 = J3 at *
        have hpe3 : putAt cs2 J3 [.int .u8 (45 : UInt8).toNat] = cs2.take J3 ++ .int .u8 45 :: cs2.drop (J3 + 1) := by simp [putAt]
        simp -implicitDefEqProofs (disch := first | assumption | (simp only [wnA]; done) | (simp only [wnA]; omega) | omega | fail) [rc109_8, wkA, retV, stabOk, dC, ev, fillD, pickCells, putAt, bnd, slD, List.getElem?_cons_zero, List.getElem?_cons_succ, dR.eq_20, Mem.cell, Mem.row, wmA, s3, s4, s10, s12, wJ, hin2]
        refine SK_st (i := i) (o := J3) (by simp [wkA, retV, stabOk, dC, ev, fillD, pickCells, putAt, bnd, slD, List.getElem?_cons_zero, List.getElem?_cons_succ, dR.eq_20]) (e := 213) (cs := cs2) (by simp) (by omega) (by simp [wkA, retV, stabOk, dC, ev, fillD, pickCells, putAt, bnd, slD, List.getElem?_cons_zero, List.getElem?_cons_succ, dR.eq_20]) (by simp [wkA, retV, stabOk, dC, ev, fillD, pickCells, putAt, bnd, slD, List.getElem?_cons_zero, List.getElem?_cons_succ, dR.eq_20, oneC]) ?_
        simp -implicitDefEqProofs (disch := first | assumption | (simp only [wnA]; done) | (simp only [wnA]; omega) | omega | fail) [wkA, retV, stabOk, dC, ev, fillD, pickCells, putAt, bnd, slD, List.getElem?_cons_zero, List.getElem?_cons_succ, dR.eq_20, Mem.cell, Mem.row, wmA]
        rw [← hpe3]
        generalize putAt cs2 J3 [.int .u8 (45 : UInt8).toNat] = cs4 at *
        have eL : (0 : Int) ≤ (J3 : Int) ∧ (J3 : Int) ≤ 65 := by omega
        have eJ0 : J3 ≠ 0 := by omega
        have eJ65 : J3 ≠ 65 := by omega
        have hJ4 : 65 - (45 :: digC u :: t).length = J3 := by simp; omega
        simp -implicitDefEqProofs (disch := first | assumption | (simp only [wnA]; done) | (simp only [wnA]; omega) | omega | fail) [rc109_7, rc109_6, wkA, retV, stabOk, dC, ev, fillD, pickCells, putAt, bnd, slD, List.getElem?_cons_zero, List.getElem?_cons_succ, dR.eq_20, Mem.cell, Mem.row, wmA, s3, s4, s10, s12, p3, eL]
        rw [bstr_tail (e := 213) (t := 45 :: digC u :: t) (by simp) p3 hJ4 (by simp; omega) p4]
        simp -implicitDefEqProofs (disch := first | assumption | (simp only [wnA]; done) | (simp only [wnA]; omega) | omega | fail) [wkA, retV, stabOk, dC, ev, fillD, pickCells, putAt, bnd, slD, List.getElem?_cons_zero, List.getElem?_cons_succ, dR.eq_20, Mem.cell, Mem.row, wmA, s10]
        have := hq _ ((o'.set hi (.own cs2 213)).set hi (.own cs4 213))
        simpa [sgn] using this

theorem c_fmtBits {w0 : World} {m : Mem} {B k a : Nat} {u : Int} {neg : Bool} {Q : Value → Mem → Prop} (hp : Part L0 m) (hB : B = 2 ^ k) (hk : 3 ≤ k ∧ k ≤ 5) (hne : B ≠ 10) (ha : a < 18446744073709551616)
    (hu : u = if neg then IntKind.u64.wrap (0 - (a : Int)) else (a : Int))
    (h1 : outIs (.bool true) (callE tab (xCall xs) Tryz.prog 50 120 [.int .i64 (B : Int)] L0) = true)
    (h2 : outIs (.int .i64 (k : Int)) (callE tab (xCall xs) Tryz.prog 50 121 [.int .u64 (B : Int)] L0) = true)
    (hq : ∀ m', Old m m' → Q (.tuple ⟨[.slice none 0 0, .string ⟨⟨sgn neg ++ digs B a⟩⟩]⟩) m') :
    AbC Tryz.prog w0 109 [.slice none 0 0, .int .u64 u, .int .i64 (B : Int), .bool neg, .bool false] m Q := by
  refine AbC_fn ok109 (by simp) ?_
  have hB2 : 8 ≤ B := by rw [hB]; calc 8 = 2 ^ 3 := rfl
    _ ≤ 2 ^ k := Nat.pow_le_pow_right (by omega) hk.1
  have hB3 : B ≤ 32 := by rw [hB]; calc 2 ^ k ≤ 2 ^ 5 := Nat.pow_le_pow_right (by omega) hk.2
    _ = 32 := rfl
  have f1 : (2 : Int) ≤ B := by omega
  have f2 : (B : Int) ≠ 10 := by omega
  have f3 : (B : Int) ≤ 36 := by omega
  simp -implicitDefEqProofs (disch := first | assumption | (simp only [wnA]; done) | (simp only [wnA]; omega) | omega | fail) [rc109, ro109, wkA, retV, stabOk, dC, ev, fillD, pickCells, putAt, bnd, slD, List.getElem?_cons_zero, List.getElem?_cons_succ, dR.eq_20, Mem.cell, Mem.row, wmA, ltF f1, beqF f2, gtF f3]
  have ho : ∀ E, Old m (m.push E) := fun E => (Old.refl m).push _
  cases neg with
  | false =>
    have hu' : u = (a : Int) := by simpa using hu
    subst hu'
    simp -implicitDefEqProofs (disch := first | assumption | (simp only [wnA]; done) | (simp only [wnA]; omega) | omega | fail) [rc109_10, wkA, retV, stabOk, dC, ev, fillD, pickCells, putAt, bnd, slD, List.getElem?_cons_zero, List.getElem?_cons_succ, dR.eq_20, Mem.cell, Mem.row, wmA]
    exact c_fmtTail (k := k) ((ho _).part hp) (ho _) (Nat.le_refl m.next) (by simp) (by simp -implicitDefEqProofs (disch := first | assumption | (simp only [wnA]; done) | (simp only [wnA]; omega) | omega | fail) [Mem.cell, Mem.row, wmA]; rfl) (by simp) hB hk hB2 hB3 ha (by simp [frA_at]) (by simp [frA_at]) (by simp [frA_at]) (by simp [frA_at]) (by simp) (by simp) (by simp) h1 h2 hq
  | true =>
    have hu' : u = IntKind.u64.wrap (0 - (a : Int)) := by simpa using hu
    have hw : IntKind.u64.wrap (0 - u) = (a : Int) := by
      subst hu'
      simp only [IntKind.wrap, IntKind.bits, IntKind.signed]
      simp
      omega
    have hw' : IntKind.u64.wrap (-u) = (a : Int) := by simpa using hw
    simp -implicitDefEqProofs (disch := first | assumption | (simp only [wnA]; done) | (simp only [wnA]; omega) | omega | fail) [rc109_10, wkA, retV, stabOk, dC, ev, fillD, pickCells, putAt, bnd, slD, List.getElem?_cons_zero, List.getElem?_cons_succ, dR.eq_20, Mem.cell, Mem.row, wmA, hw, hw']
    exact c_fmtTail (k := k) ((ho _).part hp) (ho _) (Nat.le_refl m.next) (by simp) (by simp -implicitDefEqProofs (disch := first | assumption | (simp only [wnA]; done) | (simp only [wnA]; omega) | omega | fail) [Mem.cell, Mem.row, wmA]; rfl) (by simp) hB hk hB2 hB3 ha (by simp [frA_at]) (by simp [frA_at]) (by simp [frA_at]) (by simp [frA_at]) (by simp) (by simp) (by simp) h1 h2 hq
end Go.Proofs.YtjlicambfepfiaaGreatDoor.Ab

namespace Go.Proofs
open Go.Shelf
def Tryz.lays317_ren : Go.Shelf.Ren := ⟨fun | 317 => 117 | n => n, fun | 3 => 3 | 46 => 206 | n => n, fun | n => n⟩
theorem Tryz.lays317 : Go.Proofs.Lays.n317 Tryz.prog Tryz.lays317_ren := {
  mixed := by kernel_rfl
  f317 := Tryz.func117.trans (congrArg some (by kernel_rfl))
  t3 := Tryz.underlying3
  a3 := Tryz.isAgg3
  z3 := Tryz.sizeOf3
  v3 := Tryz.zeroValue3
  t46 := Tryz.underlying206
  a46 := Tryz.isAgg206
  z46 := Tryz.sizeOf206
  v46 := Tryz.zeroValue206 }
open Go.Lib in
/-- internal/strconv.log10Pow2: "log10Pow2(x) returns ⌊log₁₀ 2**x⌋ = ⌊x * log₁₀ 2⌋.": '(x * 78913) >> 18', at an x up to 64 (a length in bits). The world is as it was. (LAID: no walk: one application.) -/
theorem Tryz.internal_strconv_log10Pow2 (x : Nat) (h : x ≤ 64) (w : World) :
    Calls Tryz.prog 117 #[.int .i64 x] w fun e w' => e = .returned (.int .i64 (Lib.l10 x)) ∧ w' = w := Any.internal_strconv_log10Pow2 Tryz.lays317 x h w
def Tryz.lays318_ren : Go.Shelf.Ren := ⟨fun | 318 => 119 | n => n, fun | 3 => 3 | 4 => 4 | n => n, fun | n => n⟩
theorem Tryz.lays318 : Go.Proofs.Lays.n318 Tryz.prog Tryz.lays318_ren := {
  mixed := by kernel_rfl
  f318 := Tryz.func119.trans (congrArg some (by kernel_rfl))
  t3 := Tryz.underlying3
  a3 := Tryz.isAgg3
  z3 := Tryz.sizeOf3
  v3 := Tryz.zeroValue3
  t4 := Tryz.underlying4
  a4 := Tryz.isAgg4
  z4 := Tryz.sizeOf4
  v4 := Tryz.zeroValue4 }
open Go.Lib in
/-- internal/strconv.bool2: "bool2 converts b to an integer: 1 for true, 0 for false." The world is as it was. (LAID: no walk: one application.) -/
theorem Tryz.internal_strconv_bool2_int (b : Bool) (w : World) :
    Calls Tryz.prog 119 #[.bool b] w fun e w' => e = .returned (.int .i64 (if b then 1 else 0)) ∧ w' = w := Any.internal_strconv_bool2_int Tryz.lays318 b w
def Tryz.lays283_ren : Go.Shelf.Ren := ⟨fun | 283 => 106 | n => n, fun | 3 => 3 | 9 => 9 | 4 => 4 | n => n, fun | n => n⟩
theorem Tryz.lays283 : Go.Proofs.Lays.n283 Tryz.prog Tryz.lays283_ren := {
  mixed := by kernel_rfl
  f283 := Tryz.func106.trans (congrArg some (by kernel_rfl))
  t3 := Tryz.underlying3
  a3 := Tryz.isAgg3
  z3 := Tryz.sizeOf3
  v3 := Tryz.zeroValue3
  t4 := Tryz.underlying4
  a4 := Tryz.isAgg4
  z4 := Tryz.sizeOf4
  v4 := Tryz.zeroValue4
  t9 := Tryz.underlying9
  a9 := Tryz.isAgg9
  z9 := Tryz.sizeOf9
  v9 := Tryz.zeroValue9 }
open Go.Lib in
/-- internal/strconv.small: "small returns the string for an i with 0 <= i < nSmalls.": i's decimal numeral. The world is as it was. (LAID: no walk: one application.) -/
theorem Tryz.internal_strconv_small (i : Nat) (h : i < 100) (w : World) :
    Calls Tryz.prog 106 #[.int .i64 i] w fun e w' => e = .returned (.string ⟨(Lib.decDigits i).toArray⟩) ∧ w' = w := Any.internal_strconv_small Tryz.lays283 i h w
def Tryz.laysM284_ren : Go.Shelf.Ren := ⟨fun | 284 => 107 | 129 => 118 | 317 => 117 | 318 => 119 | n => n, fun | 53 => 71 | 3 => 3 | 212 => 211 | 0 => 0 | 4 => 4 | 46 => 206 | 5 => 5 | 9 => 9 | n => n, fun | 17 => 2 | n => n⟩
theorem Tryz.laysM284 : Go.Proofs.LaysM.n284 Tryz.prog Tryz.laysM284_ren := {
  mixed := by kernel_rfl
  f129 := Tryz.func118.trans (congrArg some (by kernel_rfl))
  f284 := Tryz.func107.trans (congrArg some (by kernel_rfl))
  f317 := Tryz.func117.trans (congrArg some (by kernel_rfl))
  f318 := Tryz.func119.trans (congrArg some (by kernel_rfl))
  t0 := Tryz.underlying0
  a0 := Tryz.isAgg0
  z0 := Tryz.sizeOf0
  v0 := Tryz.zeroValue0
  t3 := Tryz.underlying3
  a3 := Tryz.isAgg3
  z3 := Tryz.sizeOf3
  v3 := Tryz.zeroValue3
  t4 := Tryz.underlying4
  a4 := Tryz.isAgg4
  z4 := Tryz.sizeOf4
  v4 := Tryz.zeroValue4
  t5 := Tryz.underlying5
  a5 := Tryz.isAgg5
  z5 := Tryz.sizeOf5
  v5 := Tryz.zeroValue5
  t9 := Tryz.underlying9
  a9 := Tryz.isAgg9
  z9 := Tryz.sizeOf9
  v9 := Tryz.zeroValue9
  t46 := Tryz.underlying206
  a46 := Tryz.isAgg206
  z46 := Tryz.sizeOf206
  v46 := Tryz.zeroValue206
  t53 := Tryz.underlying71
  a53 := Tryz.isAgg71
  z53 := Tryz.sizeOf71
  v53 := Tryz.zeroValue71
  t212 := Tryz.underlying211
  a212 := Tryz.isAgg211
  z212 := Tryz.sizeOf211
  v212 := Tryz.zeroValue211
  g17 := by kernel_rfl
  i0 := by kernel_rfl
  i3 := by kernel_rfl
  i4 := by kernel_rfl
  i5 := by kernel_rfl
  i9 := by kernel_rfl
  i46 := by kernel_rfl
  i53 := by kernel_rfl
  i212 := by kernel_rfl
  m17 := by kernel_rfl }
open Go.Lib in
/-- internal/strconv.numDigits, at a d that is not 0: THE NUMBER OF d's DECIMAL DIGITS. The world is as it was. (LAID: no walk: one application.) -/
theorem Tryz.internal_strconv_numDigits (u : Nat) (h1 : 1 ≤ u) (h2 : u < 18446744073709551616) (w : World) (htab : Lib.TabIs Tryz.prog w "internal/strconv.uint64pow10" .u64 Lib.pow10Tab) :
    Calls Tryz.prog 107 #[.int .u64 u] w fun e w' => e = .returned (.int .i64 (Lib.nDigits u)) ∧ w' = w := Any.internal_strconv_numDigits Tryz.laysM284 u h1 h2 w htab
def Tryz.lays285_ren : Go.Shelf.Ren := ⟨fun | 285 => 108 | n => n, fun | 37 => 51 | 53 => 71 | 3 => 3 | 4 => 4 | 51 => 212 | 9 => 9 | 5 => 5 | 0 => 0 | n => n, fun | n => n⟩
theorem Tryz.lays285 : Go.Proofs.Lays.n285 Tryz.prog Tryz.lays285_ren := {
  mixed := by kernel_rfl
  f285 := Tryz.func108.trans (congrArg some (by kernel_rfl))
  t0 := Tryz.underlying0
  a0 := Tryz.isAgg0
  z0 := Tryz.sizeOf0
  v0 := Tryz.zeroValue0
  t3 := Tryz.underlying3
  a3 := Tryz.isAgg3
  z3 := Tryz.sizeOf3
  v3 := Tryz.zeroValue3
  t4 := Tryz.underlying4
  a4 := Tryz.isAgg4
  z4 := Tryz.sizeOf4
  v4 := Tryz.zeroValue4
  t5 := Tryz.underlying5
  a5 := Tryz.isAgg5
  z5 := Tryz.sizeOf5
  v5 := Tryz.zeroValue5
  t9 := Tryz.underlying9
  a9 := Tryz.isAgg9
  z9 := Tryz.sizeOf9
  v9 := Tryz.zeroValue9
  t37 := Tryz.underlying51
  a37 := Tryz.isAgg51
  z37 := Tryz.sizeOf51
  v37 := Tryz.zeroValue51
  t51 := Tryz.underlying212
  a51 := Tryz.isAgg212
  z51 := Tryz.sizeOf212
  v51 := Tryz.zeroValue212
  t53 := Tryz.underlying71
  a53 := Tryz.isAgg71
  z53 := Tryz.sizeOf71
  v53 := Tryz.zeroValue71 }
open Go.RowKit Go.Sort Go.Lib in
/-- internal/strconv.formatBase10: "formatBase10 formats the decimal representation of u into a. The caller is responsible for ensuring that a is big enough to hold u. If a is too big, leading zeros will be filled in as needed.": THE ROW HOLDS u's DIGITS ('FmtInv .. 0 ..': every place t holds 'dg u (len - 1 - t)'); all else is as it was but for the count of draws. (LAID: no walk: one application.) -/
theorem Tryz.internal_strconv_formatBase10 (blk off cap : Nat) (u : Nat) (d : Array UInt8) (w : World) (hH : Holds (fun (b : UInt8) => Value.int .u8 (b.toNat : Int)) w blk off d) (hu : u < 10 ^ d.size) (hu64 : u < 18446744073709551616) (hsz : d.size < 4611686018427387904) :
    Calls Tryz.prog 108 #[.slice (some ⟨blk, off, none⟩) d.size cap, .int .u64 u] w fun e w' =>
      e = .returned (.tuple #[]) ∧ ∃ (n v' : Nat) (dk : Array UInt8), w' = (putRow (fun (b : UInt8) => Value.int .u8 (b.toNat : Int)) w blk off dk).drewN n ∧ FmtInv d.size u 0 v' dk := Any.internal_strconv_formatBase10 Tryz.lays285 blk off cap u d w hH hu hu64 hsz
def Tryz.laysM246_ren : Go.Shelf.Ren := ⟨fun | 246 => 94 | 283 => 106 | 284 => 107 | 285 => 108 | 286 => 109 | 129 => 118 | 317 => 117 | 318 => 119 | 319 => 120 | 320 => 121 | 337 => 125 | 338 => 126 | n => n, fun | 2 => 2 | 3 => 3 | 9 => 9 | 4 => 4 | 171 => 199 | 0 => 0 | 53 => 71 | 37 => 51 | 5 => 5 | 173 => 202 | 212 => 211 | 51 => 212 | 20 => 20 | 213 => 213 | 46 => 206 | 232 => 227 | 233 => 228 | n => n, fun | 17 => 2 | 18 => 5 | 19 => 6 | n => n⟩
theorem Tryz.laysM246 : Go.Proofs.LaysM.n246 Tryz.prog Tryz.laysM246_ren := {
  mixed := by kernel_rfl
  f129 := Tryz.func118.trans (congrArg some (by kernel_rfl))
  f246 := Tryz.func94.trans (congrArg some (by kernel_rfl))
  f283 := Tryz.func106.trans (congrArg some (by kernel_rfl))
  f284 := Tryz.func107.trans (congrArg some (by kernel_rfl))
  f285 := Tryz.func108.trans (congrArg some (by kernel_rfl))
  f286 := Tryz.func109.trans (congrArg some (by kernel_rfl))
  f317 := Tryz.func117.trans (congrArg some (by kernel_rfl))
  f318 := Tryz.func119.trans (congrArg some (by kernel_rfl))
  f319 := Tryz.func120.trans (congrArg some (by kernel_rfl))
  f320 := Tryz.func121.trans (congrArg some (by kernel_rfl))
  f337 := Tryz.func125.trans (congrArg some (by kernel_rfl))
  f338 := Tryz.func126.trans (congrArg some (by kernel_rfl))
  t0 := Tryz.underlying0
  a0 := Tryz.isAgg0
  z0 := Tryz.sizeOf0
  v0 := Tryz.zeroValue0
  t2 := Tryz.underlying2
  a2 := Tryz.isAgg2
  z2 := Tryz.sizeOf2
  v2 := Tryz.zeroValue2
  t3 := Tryz.underlying3
  a3 := Tryz.isAgg3
  z3 := Tryz.sizeOf3
  v3 := Tryz.zeroValue3
  t4 := Tryz.underlying4
  a4 := Tryz.isAgg4
  z4 := Tryz.sizeOf4
  v4 := Tryz.zeroValue4
  t5 := Tryz.underlying5
  a5 := Tryz.isAgg5
  z5 := Tryz.sizeOf5
  v5 := Tryz.zeroValue5
  t9 := Tryz.underlying9
  a9 := Tryz.isAgg9
  z9 := Tryz.sizeOf9
  v9 := Tryz.zeroValue9
  t20 := Tryz.underlying20
  a20 := Tryz.isAgg20
  z20 := Tryz.sizeOf20
  v20 := Tryz.zeroValue20
  t37 := Tryz.underlying51
  a37 := Tryz.isAgg51
  z37 := Tryz.sizeOf51
  v37 := Tryz.zeroValue51
  t46 := Tryz.underlying206
  a46 := Tryz.isAgg206
  z46 := Tryz.sizeOf206
  v46 := Tryz.zeroValue206
  t51 := Tryz.underlying212
  a51 := Tryz.isAgg212
  z51 := Tryz.sizeOf212
  v51 := Tryz.zeroValue212
  t53 := Tryz.underlying71
  a53 := Tryz.isAgg71
  z53 := Tryz.sizeOf71
  v53 := Tryz.zeroValue71
  t171 := Tryz.underlying199
  a171 := Tryz.isAgg199
  z171 := Tryz.sizeOf199
  v171 := Tryz.zeroValue199
  t173 := Tryz.underlying202
  a173 := Tryz.isAgg202
  z173 := Tryz.sizeOf202
  v173 := Tryz.zeroValue202
  t212 := Tryz.underlying211
  a212 := Tryz.isAgg211
  z212 := Tryz.sizeOf211
  v212 := Tryz.zeroValue211
  t213 := Tryz.underlying213
  a213 := Tryz.isAgg213
  z213 := Tryz.sizeOf213
  t232 := Tryz.underlying227
  a232 := Tryz.isAgg227
  z232 := Tryz.sizeOf227
  v232 := Tryz.zeroValue227
  t233 := Tryz.underlying228
  a233 := Tryz.isAgg228
  z233 := Tryz.sizeOf228
  v233 := Tryz.zeroValue228
  g17 := by kernel_rfl
  g18 := by kernel_rfl
  g19 := by kernel_rfl
  i0 := by kernel_rfl
  i2 := by kernel_rfl
  i3 := by kernel_rfl
  i4 := by kernel_rfl
  i5 := by kernel_rfl
  i9 := by kernel_rfl
  i20 := by kernel_rfl
  i37 := by kernel_rfl
  i46 := by kernel_rfl
  i51 := by kernel_rfl
  i53 := by kernel_rfl
  i171 := by kernel_rfl
  i173 := by kernel_rfl
  i212 := by kernel_rfl
  i232 := by kernel_rfl
  i233 := by kernel_rfl
  m17 := by kernel_rfl
  m18 := by kernel_rfl
  m19 := by kernel_rfl }
open Go.RowKit Go.Sort Go.Lib in
/-- internal/strconv.FormatInt: "FormatInt returns the string representation of i in the given base": AT BASE 10: i's decimal numeral, for every int64. The world behind the call: the world before it, new blocks behind the heap, draws. (LAID: no walk: one application.) -/
theorem Tryz.internal_strconv_FormatInt_10 (n : Int) (h0 : -9223372036854775808 ≤ n) (h1 : n ≤ 9223372036854775807) (w : World) (htab : Lib.TabIs Tryz.prog w "internal/strconv.uint64pow10" .u64 Lib.pow10Tab) :
    Calls Tryz.prog 94 #[.int .i64 n, .int .i64 10] w fun e w' => e = .returned (.string ⟨(Lib.itoa n).toArray⟩) ∧ ∃ k os, w' = grow (w.drewN k) os := Any.internal_strconv_FormatInt_10 Tryz.laysM246 n h0 h1 w htab
def Tryz.lays246_ren : Go.Shelf.Ren := ⟨fun | 246 => 94 | 283 => 106 | 284 => 107 | 285 => 108 | 286 => 109 | 129 => 118 | 317 => 117 | 318 => 119 | 319 => 120 | 320 => 121 | 337 => 125 | 338 => 126 | n => n, fun | 2 => 2 | 3 => 3 | 9 => 9 | 4 => 4 | 171 => 199 | 0 => 0 | 53 => 71 | 37 => 51 | 5 => 5 | 173 => 202 | 212 => 211 | 51 => 212 | 20 => 20 | 213 => 213 | 46 => 206 | 232 => 227 | 233 => 228 | n => n, fun | 17 => 2 | 18 => 5 | 19 => 6 | n => n⟩
theorem Tryz.lays246 : Go.Proofs.Lays.n246 Tryz.prog Tryz.lays246_ren := {
  mixed := by kernel_rfl
  f129 := Tryz.func118.trans (congrArg some (by kernel_rfl))
  f246 := Tryz.func94.trans (congrArg some (by kernel_rfl))
  f283 := Tryz.func106.trans (congrArg some (by kernel_rfl))
  f284 := Tryz.func107.trans (congrArg some (by kernel_rfl))
  f285 := Tryz.func108.trans (congrArg some (by kernel_rfl))
  f286 := Tryz.func109.trans (congrArg some (by kernel_rfl))
  f317 := Tryz.func117.trans (congrArg some (by kernel_rfl))
  f318 := Tryz.func119.trans (congrArg some (by kernel_rfl))
  f319 := Tryz.func120.trans (congrArg some (by kernel_rfl))
  f320 := Tryz.func121.trans (congrArg some (by kernel_rfl))
  f337 := Tryz.func125.trans (congrArg some (by kernel_rfl))
  f338 := Tryz.func126.trans (congrArg some (by kernel_rfl))
  t0 := Tryz.underlying0
  a0 := Tryz.isAgg0
  z0 := Tryz.sizeOf0
  v0 := Tryz.zeroValue0
  t2 := Tryz.underlying2
  a2 := Tryz.isAgg2
  z2 := Tryz.sizeOf2
  v2 := Tryz.zeroValue2
  t3 := Tryz.underlying3
  a3 := Tryz.isAgg3
  z3 := Tryz.sizeOf3
  v3 := Tryz.zeroValue3
  t4 := Tryz.underlying4
  a4 := Tryz.isAgg4
  z4 := Tryz.sizeOf4
  v4 := Tryz.zeroValue4
  t5 := Tryz.underlying5
  a5 := Tryz.isAgg5
  z5 := Tryz.sizeOf5
  v5 := Tryz.zeroValue5
  t9 := Tryz.underlying9
  a9 := Tryz.isAgg9
  z9 := Tryz.sizeOf9
  v9 := Tryz.zeroValue9
  t20 := Tryz.underlying20
  a20 := Tryz.isAgg20
  z20 := Tryz.sizeOf20
  v20 := Tryz.zeroValue20
  t37 := Tryz.underlying51
  a37 := Tryz.isAgg51
  z37 := Tryz.sizeOf51
  v37 := Tryz.zeroValue51
  t46 := Tryz.underlying206
  a46 := Tryz.isAgg206
  z46 := Tryz.sizeOf206
  v46 := Tryz.zeroValue206
  t51 := Tryz.underlying212
  a51 := Tryz.isAgg212
  z51 := Tryz.sizeOf212
  v51 := Tryz.zeroValue212
  t53 := Tryz.underlying71
  a53 := Tryz.isAgg71
  z53 := Tryz.sizeOf71
  v53 := Tryz.zeroValue71
  t171 := Tryz.underlying199
  a171 := Tryz.isAgg199
  z171 := Tryz.sizeOf199
  v171 := Tryz.zeroValue199
  t173 := Tryz.underlying202
  a173 := Tryz.isAgg202
  z173 := Tryz.sizeOf202
  v173 := Tryz.zeroValue202
  t212 := Tryz.underlying211
  a212 := Tryz.isAgg211
  z212 := Tryz.sizeOf211
  v212 := Tryz.zeroValue211
  t213 := Tryz.underlying213
  a213 := Tryz.isAgg213
  z213 := Tryz.sizeOf213
  t232 := Tryz.underlying227
  a232 := Tryz.isAgg227
  z232 := Tryz.sizeOf227
  v232 := Tryz.zeroValue227
  t233 := Tryz.underlying228
  a233 := Tryz.isAgg228
  z233 := Tryz.sizeOf228
  v233 := Tryz.zeroValue228
  g17 := by kernel_rfl
  g18 := by kernel_rfl
  g19 := by kernel_rfl }
open Go.RowKit Go.Sort Go.Lib in
/-- THE ROAD WITHOUT THE TABLE: 0 <= i < 100: two constants are read, nothing is laid: no premise on the world, and the world is as it was. (LAID: no walk: one application.) -/
theorem Tryz.internal_strconv_FormatInt_10_small (i : Nat) (hi : i < 100) (w : World) :
    Calls Tryz.prog 94 #[.int .i64 i, .int .i64 10] w fun e w' => e = .returned (.string ⟨(Lib.decDigits i).toArray⟩) ∧ w' = w := Any.internal_strconv_FormatInt_10_small Tryz.lays246 i hi w
def Tryz.laysM243_ren : Go.Shelf.Ren := ⟨fun | 243 => 83 | 246 => 94 | 283 => 106 | 284 => 107 | 285 => 108 | 286 => 109 | 129 => 118 | 317 => 117 | 318 => 119 | 319 => 120 | 320 => 121 | 337 => 125 | 338 => 126 | n => n, fun | 3 => 3 | 9 => 9 | 2 => 2 | 4 => 4 | 171 => 199 | 0 => 0 | 53 => 71 | 37 => 51 | 5 => 5 | 173 => 202 | 212 => 211 | 51 => 212 | 20 => 20 | 213 => 213 | 46 => 206 | 232 => 227 | 233 => 228 | n => n, fun | 17 => 2 | 18 => 5 | 19 => 6 | n => n⟩
theorem Tryz.laysM243 : Go.Proofs.LaysM.n243 Tryz.prog Tryz.laysM243_ren := {
  mixed := by kernel_rfl
  f129 := Tryz.func118.trans (congrArg some (by kernel_rfl))
  f243 := Tryz.func83.trans (congrArg some (by kernel_rfl))
  f246 := Tryz.func94.trans (congrArg some (by kernel_rfl))
  f283 := Tryz.func106.trans (congrArg some (by kernel_rfl))
  f284 := Tryz.func107.trans (congrArg some (by kernel_rfl))
  f285 := Tryz.func108.trans (congrArg some (by kernel_rfl))
  f286 := Tryz.func109.trans (congrArg some (by kernel_rfl))
  f317 := Tryz.func117.trans (congrArg some (by kernel_rfl))
  f318 := Tryz.func119.trans (congrArg some (by kernel_rfl))
  f319 := Tryz.func120.trans (congrArg some (by kernel_rfl))
  f320 := Tryz.func121.trans (congrArg some (by kernel_rfl))
  f337 := Tryz.func125.trans (congrArg some (by kernel_rfl))
  f338 := Tryz.func126.trans (congrArg some (by kernel_rfl))
  t0 := Tryz.underlying0
  a0 := Tryz.isAgg0
  z0 := Tryz.sizeOf0
  v0 := Tryz.zeroValue0
  t2 := Tryz.underlying2
  a2 := Tryz.isAgg2
  z2 := Tryz.sizeOf2
  v2 := Tryz.zeroValue2
  t3 := Tryz.underlying3
  a3 := Tryz.isAgg3
  z3 := Tryz.sizeOf3
  v3 := Tryz.zeroValue3
  t4 := Tryz.underlying4
  a4 := Tryz.isAgg4
  z4 := Tryz.sizeOf4
  v4 := Tryz.zeroValue4
  t5 := Tryz.underlying5
  a5 := Tryz.isAgg5
  z5 := Tryz.sizeOf5
  v5 := Tryz.zeroValue5
  t9 := Tryz.underlying9
  a9 := Tryz.isAgg9
  z9 := Tryz.sizeOf9
  v9 := Tryz.zeroValue9
  t20 := Tryz.underlying20
  a20 := Tryz.isAgg20
  z20 := Tryz.sizeOf20
  v20 := Tryz.zeroValue20
  t37 := Tryz.underlying51
  a37 := Tryz.isAgg51
  z37 := Tryz.sizeOf51
  v37 := Tryz.zeroValue51
  t46 := Tryz.underlying206
  a46 := Tryz.isAgg206
  z46 := Tryz.sizeOf206
  v46 := Tryz.zeroValue206
  t51 := Tryz.underlying212
  a51 := Tryz.isAgg212
  z51 := Tryz.sizeOf212
  v51 := Tryz.zeroValue212
  t53 := Tryz.underlying71
  a53 := Tryz.isAgg71
  z53 := Tryz.sizeOf71
  v53 := Tryz.zeroValue71
  t171 := Tryz.underlying199
  a171 := Tryz.isAgg199
  z171 := Tryz.sizeOf199
  v171 := Tryz.zeroValue199
  t173 := Tryz.underlying202
  a173 := Tryz.isAgg202
  z173 := Tryz.sizeOf202
  v173 := Tryz.zeroValue202
  t212 := Tryz.underlying211
  a212 := Tryz.isAgg211
  z212 := Tryz.sizeOf211
  v212 := Tryz.zeroValue211
  t213 := Tryz.underlying213
  a213 := Tryz.isAgg213
  z213 := Tryz.sizeOf213
  t232 := Tryz.underlying227
  a232 := Tryz.isAgg227
  z232 := Tryz.sizeOf227
  v232 := Tryz.zeroValue227
  t233 := Tryz.underlying228
  a233 := Tryz.isAgg228
  z233 := Tryz.sizeOf228
  v233 := Tryz.zeroValue228
  g17 := by kernel_rfl
  g18 := by kernel_rfl
  g19 := by kernel_rfl
  i0 := by kernel_rfl
  i2 := by kernel_rfl
  i3 := by kernel_rfl
  i4 := by kernel_rfl
  i5 := by kernel_rfl
  i9 := by kernel_rfl
  i20 := by kernel_rfl
  i37 := by kernel_rfl
  i46 := by kernel_rfl
  i51 := by kernel_rfl
  i53 := by kernel_rfl
  i171 := by kernel_rfl
  i173 := by kernel_rfl
  i212 := by kernel_rfl
  i232 := by kernel_rfl
  i233 := by kernel_rfl
  m17 := by kernel_rfl
  m18 := by kernel_rfl
  m19 := by kernel_rfl }
open Go.RowKit Go.Sort Go.Lib in
/-- internal/strconv.Itoa: "Itoa is equivalent to FormatInt(int64(i), 10).": i's decimal numeral, for every int. (LAID: no walk: one application.) -/
theorem Tryz.internal_strconv_Itoa (n : Int) (h0 : -9223372036854775808 ≤ n) (h1 : n ≤ 9223372036854775807) (w : World) (htab : Lib.TabIs Tryz.prog w "internal/strconv.uint64pow10" .u64 Lib.pow10Tab) :
    Calls Tryz.prog 83 #[.int .i64 n] w fun e w' => e = .returned (.string ⟨(Lib.itoa n).toArray⟩) ∧ ∃ k os, w' = grow (w.drewN k) os := Any.internal_strconv_Itoa Tryz.laysM243 n h0 h1 w htab
def Tryz.lays243_ren : Go.Shelf.Ren := ⟨fun | 243 => 83 | 246 => 94 | 283 => 106 | 284 => 107 | 285 => 108 | 286 => 109 | 129 => 118 | 317 => 117 | 318 => 119 | 319 => 120 | 320 => 121 | 337 => 125 | 338 => 126 | n => n, fun | 3 => 3 | 9 => 9 | 2 => 2 | 4 => 4 | 171 => 199 | 0 => 0 | 53 => 71 | 37 => 51 | 5 => 5 | 173 => 202 | 212 => 211 | 51 => 212 | 20 => 20 | 213 => 213 | 46 => 206 | 232 => 227 | 233 => 228 | n => n, fun | 17 => 2 | 18 => 5 | 19 => 6 | n => n⟩
theorem Tryz.lays243 : Go.Proofs.Lays.n243 Tryz.prog Tryz.lays243_ren := {
  mixed := by kernel_rfl
  f129 := Tryz.func118.trans (congrArg some (by kernel_rfl))
  f243 := Tryz.func83.trans (congrArg some (by kernel_rfl))
  f246 := Tryz.func94.trans (congrArg some (by kernel_rfl))
  f283 := Tryz.func106.trans (congrArg some (by kernel_rfl))
  f284 := Tryz.func107.trans (congrArg some (by kernel_rfl))
  f285 := Tryz.func108.trans (congrArg some (by kernel_rfl))
  f286 := Tryz.func109.trans (congrArg some (by kernel_rfl))
  f317 := Tryz.func117.trans (congrArg some (by kernel_rfl))
  f318 := Tryz.func119.trans (congrArg some (by kernel_rfl))
  f319 := Tryz.func120.trans (congrArg some (by kernel_rfl))
  f320 := Tryz.func121.trans (congrArg some (by kernel_rfl))
  f337 := Tryz.func125.trans (congrArg some (by kernel_rfl))
  f338 := Tryz.func126.trans (congrArg some (by kernel_rfl))
  t0 := Tryz.underlying0
  a0 := Tryz.isAgg0
  z0 := Tryz.sizeOf0
  v0 := Tryz.zeroValue0
  t2 := Tryz.underlying2
  a2 := Tryz.isAgg2
  z2 := Tryz.sizeOf2
  v2 := Tryz.zeroValue2
  t3 := Tryz.underlying3
  a3 := Tryz.isAgg3
  z3 := Tryz.sizeOf3
  v3 := Tryz.zeroValue3
  t4 := Tryz.underlying4
  a4 := Tryz.isAgg4
  z4 := Tryz.sizeOf4
  v4 := Tryz.zeroValue4
  t5 := Tryz.underlying5
  a5 := Tryz.isAgg5
  z5 := Tryz.sizeOf5
  v5 := Tryz.zeroValue5
  t9 := Tryz.underlying9
  a9 := Tryz.isAgg9
  z9 := Tryz.sizeOf9
  v9 := Tryz.zeroValue9
  t20 := Tryz.underlying20
  a20 := Tryz.isAgg20
  z20 := Tryz.sizeOf20
  v20 := Tryz.zeroValue20
  t37 := Tryz.underlying51
  a37 := Tryz.isAgg51
  z37 := Tryz.sizeOf51
  v37 := Tryz.zeroValue51
  t46 := Tryz.underlying206
  a46 := Tryz.isAgg206
  z46 := Tryz.sizeOf206
  v46 := Tryz.zeroValue206
  t51 := Tryz.underlying212
  a51 := Tryz.isAgg212
  z51 := Tryz.sizeOf212
  v51 := Tryz.zeroValue212
  t53 := Tryz.underlying71
  a53 := Tryz.isAgg71
  z53 := Tryz.sizeOf71
  v53 := Tryz.zeroValue71
  t171 := Tryz.underlying199
  a171 := Tryz.isAgg199
  z171 := Tryz.sizeOf199
  v171 := Tryz.zeroValue199
  t173 := Tryz.underlying202
  a173 := Tryz.isAgg202
  z173 := Tryz.sizeOf202
  v173 := Tryz.zeroValue202
  t212 := Tryz.underlying211
  a212 := Tryz.isAgg211
  z212 := Tryz.sizeOf211
  v212 := Tryz.zeroValue211
  t213 := Tryz.underlying213
  a213 := Tryz.isAgg213
  z213 := Tryz.sizeOf213
  t232 := Tryz.underlying227
  a232 := Tryz.isAgg227
  z232 := Tryz.sizeOf227
  v232 := Tryz.zeroValue227
  t233 := Tryz.underlying228
  a233 := Tryz.isAgg228
  z233 := Tryz.sizeOf228
  v233 := Tryz.zeroValue228
  g17 := by kernel_rfl
  g18 := by kernel_rfl
  g19 := by kernel_rfl }
open Go.RowKit Go.Sort Go.Lib in
/-- THE ROAD WITHOUT THE TABLE: 0 <= i < 100. (LAID: no walk: one application.) -/
theorem Tryz.internal_strconv_Itoa_small (i : Nat) (hi : i < 100) (w : World) :
    Calls Tryz.prog 83 #[.int .i64 i] w fun e w' => e = .returned (.string ⟨(Lib.decDigits i).toArray⟩) ∧ w' = w := Any.internal_strconv_Itoa_small Tryz.lays243 i hi w
def Tryz.laysM171_ren : Go.Shelf.Ren := ⟨fun | 171 => 61 | 243 => 83 | 246 => 94 | 283 => 106 | 284 => 107 | 285 => 108 | 286 => 109 | 129 => 118 | 317 => 117 | 318 => 119 | 319 => 120 | 320 => 121 | 337 => 125 | 338 => 126 | n => n, fun | 3 => 3 | 9 => 9 | 2 => 2 | 4 => 4 | 171 => 199 | 0 => 0 | 53 => 71 | 37 => 51 | 5 => 5 | 173 => 202 | 212 => 211 | 51 => 212 | 20 => 20 | 213 => 213 | 46 => 206 | 232 => 227 | 233 => 228 | n => n, fun | 17 => 2 | 18 => 5 | 19 => 6 | n => n⟩
theorem Tryz.laysM171 : Go.Proofs.LaysM.n171 Tryz.prog Tryz.laysM171_ren := {
  mixed := by kernel_rfl
  f129 := Tryz.func118.trans (congrArg some (by kernel_rfl))
  f171 := Tryz.func61.trans (congrArg some (by kernel_rfl))
  f243 := Tryz.func83.trans (congrArg some (by kernel_rfl))
  f246 := Tryz.func94.trans (congrArg some (by kernel_rfl))
  f283 := Tryz.func106.trans (congrArg some (by kernel_rfl))
  f284 := Tryz.func107.trans (congrArg some (by kernel_rfl))
  f285 := Tryz.func108.trans (congrArg some (by kernel_rfl))
  f286 := Tryz.func109.trans (congrArg some (by kernel_rfl))
  f317 := Tryz.func117.trans (congrArg some (by kernel_rfl))
  f318 := Tryz.func119.trans (congrArg some (by kernel_rfl))
  f319 := Tryz.func120.trans (congrArg some (by kernel_rfl))
  f320 := Tryz.func121.trans (congrArg some (by kernel_rfl))
  f337 := Tryz.func125.trans (congrArg some (by kernel_rfl))
  f338 := Tryz.func126.trans (congrArg some (by kernel_rfl))
  t0 := Tryz.underlying0
  a0 := Tryz.isAgg0
  z0 := Tryz.sizeOf0
  v0 := Tryz.zeroValue0
  t2 := Tryz.underlying2
  a2 := Tryz.isAgg2
  z2 := Tryz.sizeOf2
  v2 := Tryz.zeroValue2
  t3 := Tryz.underlying3
  a3 := Tryz.isAgg3
  z3 := Tryz.sizeOf3
  v3 := Tryz.zeroValue3
  t4 := Tryz.underlying4
  a4 := Tryz.isAgg4
  z4 := Tryz.sizeOf4
  v4 := Tryz.zeroValue4
  t5 := Tryz.underlying5
  a5 := Tryz.isAgg5
  z5 := Tryz.sizeOf5
  v5 := Tryz.zeroValue5
  t9 := Tryz.underlying9
  a9 := Tryz.isAgg9
  z9 := Tryz.sizeOf9
  v9 := Tryz.zeroValue9
  t20 := Tryz.underlying20
  a20 := Tryz.isAgg20
  z20 := Tryz.sizeOf20
  v20 := Tryz.zeroValue20
  t37 := Tryz.underlying51
  a37 := Tryz.isAgg51
  z37 := Tryz.sizeOf51
  v37 := Tryz.zeroValue51
  t46 := Tryz.underlying206
  a46 := Tryz.isAgg206
  z46 := Tryz.sizeOf206
  v46 := Tryz.zeroValue206
  t51 := Tryz.underlying212
  a51 := Tryz.isAgg212
  z51 := Tryz.sizeOf212
  v51 := Tryz.zeroValue212
  t53 := Tryz.underlying71
  a53 := Tryz.isAgg71
  z53 := Tryz.sizeOf71
  v53 := Tryz.zeroValue71
  t171 := Tryz.underlying199
  a171 := Tryz.isAgg199
  z171 := Tryz.sizeOf199
  v171 := Tryz.zeroValue199
  t173 := Tryz.underlying202
  a173 := Tryz.isAgg202
  z173 := Tryz.sizeOf202
  v173 := Tryz.zeroValue202
  t212 := Tryz.underlying211
  a212 := Tryz.isAgg211
  z212 := Tryz.sizeOf211
  v212 := Tryz.zeroValue211
  t213 := Tryz.underlying213
  a213 := Tryz.isAgg213
  z213 := Tryz.sizeOf213
  t232 := Tryz.underlying227
  a232 := Tryz.isAgg227
  z232 := Tryz.sizeOf227
  v232 := Tryz.zeroValue227
  t233 := Tryz.underlying228
  a233 := Tryz.isAgg228
  z233 := Tryz.sizeOf228
  v233 := Tryz.zeroValue228
  g17 := by kernel_rfl
  g18 := by kernel_rfl
  g19 := by kernel_rfl
  i0 := by kernel_rfl
  i2 := by kernel_rfl
  i3 := by kernel_rfl
  i4 := by kernel_rfl
  i5 := by kernel_rfl
  i9 := by kernel_rfl
  i20 := by kernel_rfl
  i37 := by kernel_rfl
  i46 := by kernel_rfl
  i51 := by kernel_rfl
  i53 := by kernel_rfl
  i171 := by kernel_rfl
  i173 := by kernel_rfl
  i212 := by kernel_rfl
  i232 := by kernel_rfl
  i233 := by kernel_rfl
  m17 := by kernel_rfl
  m18 := by kernel_rfl
  m19 := by kernel_rfl }
open Go.RowKit Go.Sort Go.Lib in
/-- strconv.Itoa: "Itoa is equivalent to FormatInt(int64(i), 10).": i's DECIMAL NUMERAL ('Lib.itoa': a '-' where i is negative, then the digits), FOR EVERY int. The world behind the call: the world before it, new blocks behind the heap (the library's 'var a [24]byte'), draws. (LAID: no walk: one application.) -/
theorem Tryz.strconv_Itoa (n : Int) (h0 : -9223372036854775808 ≤ n) (h1 : n ≤ 9223372036854775807) (w : World) (htab : Lib.TabIs Tryz.prog w "internal/strconv.uint64pow10" .u64 Lib.pow10Tab) :
    Calls Tryz.prog 61 #[.int .i64 n] w fun e w' => e = .returned (.string ⟨(Lib.itoa n).toArray⟩) ∧ ∃ k os, w' = grow (w.drewN k) os := Any.strconv_Itoa Tryz.laysM171 n h0 h1 w htab
def Tryz.lays171_ren : Go.Shelf.Ren := ⟨fun | 171 => 61 | 243 => 83 | 246 => 94 | 283 => 106 | 284 => 107 | 285 => 108 | 286 => 109 | 129 => 118 | 317 => 117 | 318 => 119 | 319 => 120 | 320 => 121 | 337 => 125 | 338 => 126 | n => n, fun | 3 => 3 | 9 => 9 | 2 => 2 | 4 => 4 | 171 => 199 | 0 => 0 | 53 => 71 | 37 => 51 | 5 => 5 | 173 => 202 | 212 => 211 | 51 => 212 | 20 => 20 | 213 => 213 | 46 => 206 | 232 => 227 | 233 => 228 | n => n, fun | 17 => 2 | 18 => 5 | 19 => 6 | n => n⟩
theorem Tryz.lays171 : Go.Proofs.Lays.n171 Tryz.prog Tryz.lays171_ren := {
  mixed := by kernel_rfl
  f129 := Tryz.func118.trans (congrArg some (by kernel_rfl))
  f171 := Tryz.func61.trans (congrArg some (by kernel_rfl))
  f243 := Tryz.func83.trans (congrArg some (by kernel_rfl))
  f246 := Tryz.func94.trans (congrArg some (by kernel_rfl))
  f283 := Tryz.func106.trans (congrArg some (by kernel_rfl))
  f284 := Tryz.func107.trans (congrArg some (by kernel_rfl))
  f285 := Tryz.func108.trans (congrArg some (by kernel_rfl))
  f286 := Tryz.func109.trans (congrArg some (by kernel_rfl))
  f317 := Tryz.func117.trans (congrArg some (by kernel_rfl))
  f318 := Tryz.func119.trans (congrArg some (by kernel_rfl))
  f319 := Tryz.func120.trans (congrArg some (by kernel_rfl))
  f320 := Tryz.func121.trans (congrArg some (by kernel_rfl))
  f337 := Tryz.func125.trans (congrArg some (by kernel_rfl))
  f338 := Tryz.func126.trans (congrArg some (by kernel_rfl))
  t0 := Tryz.underlying0
  a0 := Tryz.isAgg0
  z0 := Tryz.sizeOf0
  v0 := Tryz.zeroValue0
  t2 := Tryz.underlying2
  a2 := Tryz.isAgg2
  z2 := Tryz.sizeOf2
  v2 := Tryz.zeroValue2
  t3 := Tryz.underlying3
  a3 := Tryz.isAgg3
  z3 := Tryz.sizeOf3
  v3 := Tryz.zeroValue3
  t4 := Tryz.underlying4
  a4 := Tryz.isAgg4
  z4 := Tryz.sizeOf4
  v4 := Tryz.zeroValue4
  t5 := Tryz.underlying5
  a5 := Tryz.isAgg5
  z5 := Tryz.sizeOf5
  v5 := Tryz.zeroValue5
  t9 := Tryz.underlying9
  a9 := Tryz.isAgg9
  z9 := Tryz.sizeOf9
  v9 := Tryz.zeroValue9
  t20 := Tryz.underlying20
  a20 := Tryz.isAgg20
  z20 := Tryz.sizeOf20
  v20 := Tryz.zeroValue20
  t37 := Tryz.underlying51
  a37 := Tryz.isAgg51
  z37 := Tryz.sizeOf51
  v37 := Tryz.zeroValue51
  t46 := Tryz.underlying206
  a46 := Tryz.isAgg206
  z46 := Tryz.sizeOf206
  v46 := Tryz.zeroValue206
  t51 := Tryz.underlying212
  a51 := Tryz.isAgg212
  z51 := Tryz.sizeOf212
  v51 := Tryz.zeroValue212
  t53 := Tryz.underlying71
  a53 := Tryz.isAgg71
  z53 := Tryz.sizeOf71
  v53 := Tryz.zeroValue71
  t171 := Tryz.underlying199
  a171 := Tryz.isAgg199
  z171 := Tryz.sizeOf199
  v171 := Tryz.zeroValue199
  t173 := Tryz.underlying202
  a173 := Tryz.isAgg202
  z173 := Tryz.sizeOf202
  v173 := Tryz.zeroValue202
  t212 := Tryz.underlying211
  a212 := Tryz.isAgg211
  z212 := Tryz.sizeOf211
  v212 := Tryz.zeroValue211
  t213 := Tryz.underlying213
  a213 := Tryz.isAgg213
  z213 := Tryz.sizeOf213
  t232 := Tryz.underlying227
  a232 := Tryz.isAgg227
  z232 := Tryz.sizeOf227
  v232 := Tryz.zeroValue227
  t233 := Tryz.underlying228
  a233 := Tryz.isAgg228
  z233 := Tryz.sizeOf228
  v233 := Tryz.zeroValue228
  g17 := by kernel_rfl
  g18 := by kernel_rfl
  g19 := by kernel_rfl }
open Go.RowKit Go.Sort Go.Lib in
/-- THE ROAD WITHOUT THE TABLE: 0 <= i < 100: NO PREMISE ON THE WORLD, AND THE WORLD IS AS IT WAS: a row that keeps its argument in that range need list no table ('laid = []'). (LAID: no walk: one application.) -/
theorem Tryz.strconv_Itoa_small (i : Nat) (hi : i < 100) (w : World) :
    Calls Tryz.prog 61 #[.int .i64 i] w fun e w' => e = .returned (.string ⟨(Lib.decDigits i).toArray⟩) ∧ w' = w := Any.strconv_Itoa_small Tryz.lays171 i hi w
def Tryz.laysC245_ren : Go.Shelf.Ren := ⟨fun | 245 => 102 | 279 => 113 | 280 => 114 | 281 => 115 | 282 => 116 | 316 => 123 | 171 => 61 | 205 => 124 | 243 => 83 | 246 => 94 | 283 => 106 | 284 => 107 | 285 => 108 | 286 => 109 | 129 => 118 | 317 => 117 | 318 => 119 | 319 => 120 | 320 => 121 | 337 => 125 | 338 => 126 | n => n, fun | 9 => 9 | 3 => 3 | 75 => 36 | 167 => 204 | 4 => 4 | 168 => 207 | 210 => 218 | 37 => 51 | 0 => 0 | 127 => 134 | 145 => 226 | 143 => 224 | 2 => 2 | 171 => 199 | 53 => 71 | 5 => 5 | 173 => 202 | 212 => 211 | 51 => 212 | 20 => 20 | 213 => 213 | 46 => 206 | 232 => 227 | 233 => 228 | 80 => 99 | n => n, fun | 15 => 3 | 16 => 4 | 17 => 2 | 18 => 5 | 19 => 6 | n => n⟩
theorem Tryz.laysC245 : Go.Proofs.LaysC.n245 Tryz.prog Tryz.laysC245_ren := {
  mixed := by kernel_rfl
  f129 := Tryz.func118.trans (congrArg some (by kernel_rfl))
  f171 := Tryz.func61.trans (congrArg some (by kernel_rfl))
  f205 := Tryz.func124.trans (congrArg some (by kernel_rfl))
  f243 := Tryz.func83.trans (congrArg some (by kernel_rfl))
  f245 := Tryz.func102.trans (congrArg some (by kernel_rfl))
  f246 := Tryz.func94.trans (congrArg some (by kernel_rfl))
  f279 := Tryz.func113.trans (congrArg some (by kernel_rfl))
  f280 := Tryz.func114.trans (congrArg some (by kernel_rfl))
  f281 := Tryz.func115.trans (congrArg some (by kernel_rfl))
  f282 := Tryz.func116.trans (congrArg some (by kernel_rfl))
  f283 := Tryz.func106.trans (congrArg some (by kernel_rfl))
  f284 := Tryz.func107.trans (congrArg some (by kernel_rfl))
  f285 := Tryz.func108.trans (congrArg some (by kernel_rfl))
  f286 := Tryz.func109.trans (congrArg some (by kernel_rfl))
  f316 := Tryz.func123.trans (congrArg some (by kernel_rfl))
  f317 := Tryz.func117.trans (congrArg some (by kernel_rfl))
  f318 := Tryz.func119.trans (congrArg some (by kernel_rfl))
  f319 := Tryz.func120.trans (congrArg some (by kernel_rfl))
  f320 := Tryz.func121.trans (congrArg some (by kernel_rfl))
  f337 := Tryz.func125.trans (congrArg some (by kernel_rfl))
  f338 := Tryz.func126.trans (congrArg some (by kernel_rfl))
  t0 := Tryz.underlying0
  a0 := Tryz.isAgg0
  z0 := Tryz.sizeOf0
  v0 := Tryz.zeroValue0
  t2 := Tryz.underlying2
  a2 := Tryz.isAgg2
  z2 := Tryz.sizeOf2
  v2 := Tryz.zeroValue2
  t3 := Tryz.underlying3
  a3 := Tryz.isAgg3
  z3 := Tryz.sizeOf3
  v3 := Tryz.zeroValue3
  t4 := Tryz.underlying4
  a4 := Tryz.isAgg4
  z4 := Tryz.sizeOf4
  v4 := Tryz.zeroValue4
  t5 := Tryz.underlying5
  a5 := Tryz.isAgg5
  z5 := Tryz.sizeOf5
  v5 := Tryz.zeroValue5
  t9 := Tryz.underlying9
  a9 := Tryz.isAgg9
  z9 := Tryz.sizeOf9
  v9 := Tryz.zeroValue9
  t20 := Tryz.underlying20
  a20 := Tryz.isAgg20
  z20 := Tryz.sizeOf20
  v20 := Tryz.zeroValue20
  t37 := Tryz.underlying51
  a37 := Tryz.isAgg51
  z37 := Tryz.sizeOf51
  v37 := Tryz.zeroValue51
  t46 := Tryz.underlying206
  a46 := Tryz.isAgg206
  z46 := Tryz.sizeOf206
  v46 := Tryz.zeroValue206
  t51 := Tryz.underlying212
  a51 := Tryz.isAgg212
  z51 := Tryz.sizeOf212
  v51 := Tryz.zeroValue212
  t53 := Tryz.underlying71
  a53 := Tryz.isAgg71
  z53 := Tryz.sizeOf71
  v53 := Tryz.zeroValue71
  t75 := Tryz.underlying36
  a75 := Tryz.isAgg36
  z75 := Tryz.sizeOf36
  v75 := Tryz.zeroValue36
  t127 := Tryz.underlying134
  a127 := Tryz.isAgg134
  z127 := Tryz.sizeOf134
  v127 := Tryz.zeroValue134
  t143 := Tryz.underlying224
  a143 := Tryz.isAgg224
  z143 := Tryz.sizeOf224
  v143 := Tryz.zeroValue224
  t145 := Tryz.underlying226
  a145 := Tryz.isAgg226
  z145 := Tryz.sizeOf226
  v145 := Tryz.zeroValue226
  t167 := Tryz.underlying204
  a167 := Tryz.isAgg204
  z167 := Tryz.sizeOf204
  v167 := Tryz.zeroValue204
  t168 := Tryz.underlying207
  a168 := Tryz.isAgg207
  z168 := Tryz.sizeOf207
  v168 := Tryz.zeroValue207
  t171 := Tryz.underlying199
  a171 := Tryz.isAgg199
  z171 := Tryz.sizeOf199
  v171 := Tryz.zeroValue199
  t173 := Tryz.underlying202
  a173 := Tryz.isAgg202
  z173 := Tryz.sizeOf202
  v173 := Tryz.zeroValue202
  t210 := Tryz.underlying218
  a210 := Tryz.isAgg218
  z210 := Tryz.sizeOf218
  v210 := Tryz.zeroValue218
  t212 := Tryz.underlying211
  a212 := Tryz.isAgg211
  z212 := Tryz.sizeOf211
  v212 := Tryz.zeroValue211
  t213 := Tryz.underlying213
  a213 := Tryz.isAgg213
  z213 := Tryz.sizeOf213
  t232 := Tryz.underlying227
  a232 := Tryz.isAgg227
  z232 := Tryz.sizeOf227
  v232 := Tryz.zeroValue227
  t233 := Tryz.underlying228
  a233 := Tryz.isAgg228
  z233 := Tryz.sizeOf228
  v233 := Tryz.zeroValue228
  g15 := by kernel_rfl
  g16 := by kernel_rfl
  g17 := by kernel_rfl
  g18 := by kernel_rfl
  g19 := by kernel_rfl
  t80 := Tryz.underlying99
  a80 := Tryz.isAgg99
  z80 := Tryz.sizeOf99
  v80 := Tryz.zeroValue99
  i0 := by kernel_rfl
  i2 := by kernel_rfl
  i3 := by kernel_rfl
  i4 := by kernel_rfl
  i5 := by kernel_rfl
  i9 := by kernel_rfl
  i20 := by kernel_rfl
  i37 := by kernel_rfl
  i46 := by kernel_rfl
  i51 := by kernel_rfl
  i53 := by kernel_rfl
  i75 := by kernel_rfl
  i80 := by kernel_rfl
  i127 := by kernel_rfl
  i143 := by kernel_rfl
  i145 := by kernel_rfl
  i167 := by kernel_rfl
  i168 := by kernel_rfl
  i171 := by kernel_rfl
  i173 := by kernel_rfl
  i210 := by kernel_rfl
  i212 := by kernel_rfl
  i232 := by kernel_rfl
  i233 := by kernel_rfl
  m15 := by kernel_rfl
  m16 := by kernel_rfl
  m17 := by kernel_rfl
  m18 := by kernel_rfl
  m19 := by kernel_rfl
  c0 := by kernel_rfl
  c2 := by kernel_rfl
  c3 := by kernel_rfl
  c4 := by kernel_rfl
  c5 := by kernel_rfl
  c9 := by kernel_rfl
  c20 := by kernel_rfl
  c37 := by kernel_rfl
  c46 := by kernel_rfl
  c51 := by kernel_rfl
  c53 := by kernel_rfl
  c75 := by kernel_rfl
  c80 := by kernel_rfl
  c127 := by kernel_rfl
  c143 := by kernel_rfl
  c145 := by kernel_rfl
  c167 := by kernel_rfl
  c168 := by kernel_rfl
  c171 := by kernel_rfl
  c173 := by kernel_rfl
  c210 := by kernel_rfl
  c212 := by kernel_rfl
  c213 := by kernel_rfl
  c232 := by kernel_rfl
  c233 := by kernel_rfl }
open Go.RowKit in
/-- strconv.toError, at the inner package's ErrSyntax: 'syntaxError(fn, s)' as an error: A *NumError IN A NEW BLOCK. (LAID: no walk: one application.) -/
theorem Tryz.strconv_toError_syntax (fn s : ByteArray) (base bits : Int) (ev : Value) (w : World) (hlim : s.size ≤ 281474976710656) (hv : w.cell? ⟨3, 0, none⟩ = some ev) (hev : ev = .nilIface ∨ ∃ te pe, ev = .iface te pe) :
    Calls Tryz.prog 102 #[.string fn, .string s, .int .i64 base, .int .i64 bits, .iface 204 (.int .i64 2)] w fun e w' => ∃ N, e = .returned (.iface 207 (.pointer (some ⟨N, 0, none⟩))) ∧ w.heap.size ≤ N ∧ w'.heap[N]? = some (.cells #[.string fn, .string s, ev] 218 (0, 0)) ∧ Below w.heap.size w w' := Any.strconv_toError_syntax Tryz.laysC245 fn s base bits ev w hlim hv hev
open Go.RowKit in
/-- strconv.toError, at the inner package's ErrRange: 'rangeError(fn, s)' as an error: A *NumError IN A NEW BLOCK. (LAID: no walk: one application.) -/
theorem Tryz.strconv_toError_range (fn s : ByteArray) (base bits : Int) (ev : Value) (w : World) (hlim : s.size ≤ 281474976710656) (hv : w.cell? ⟨4, 0, none⟩ = some ev) (hev : ev = .nilIface ∨ ∃ te pe, ev = .iface te pe) :
    Calls Tryz.prog 102 #[.string fn, .string s, .int .i64 base, .int .i64 bits, .iface 204 (.int .i64 1)] w fun e w' => ∃ N, e = .returned (.iface 207 (.pointer (some ⟨N, 0, none⟩))) ∧ w.heap.size ≤ N ∧ w'.heap[N]? = some (.cells #[.string fn, .string s, ev] 218 (0, 0)) ∧ Below w.heap.size w w' := Any.strconv_toError_range Tryz.laysC245 fn s base bits ev w hlim hv hev
end Go.Proofs

set_option linter.unusedVariables false
set_option linter.unusedSimpArgs false
namespace Go.Proofs.YtjlicambfepfiaaGreatDoor.Ab
open Go Go.RowKit
set_option maxHeartbeats 4000000
set_option maxRecDepth 100000

/-- The table of powers of ten lies in the world. -/
abbrev Ten (w : World) : Prop := Lib.TabIs Tryz.prog w "internal/strconv.uint64pow10" .u64 Lib.pow10Tab
theorem tab_at {P : Program} {w0 w : World} {G : Loc} {m : Mem} {name : String} {k : IntKind} {zs : List Int} (h : Lib.TabIs P w0 name k zs) (hs : St P w0 G m w) : Lib.TabIs P w name k zs := by
  unfold Lib.TabIs World.var? at h ⊢
  cases hg : P.globalNamed name with
  | none => rw [hg] at h; simp at h
  | some g =>
    rw [hg] at h
    simp only [Option.bind_some] at h ⊢
    have hlt : g < w0.heap.size := by
      rcases Nat.lt_or_ge g w0.heap.size with h' | h'
      · exact h'
      · rw [Array.getElem?_eq_none h'] at h; cases h
    rw [hs.below.block g hlt]; exact h

theorem tab_mem {P : Program} {W : World} {l : List (String × DataW Unit)} {name : String} {k : IntKind} {zs : List Int} {g : Nat} {t e : TypeId} {n : Nat} (h : laidMet P l W) (hm : (name, Lib.tabData k zs) ∈ l)
    (hg : P.globalNamed name = some g) (hty : (P.globals[g]?).map (·.type) = some t) (ht : P.underlying t = some (.array n e)) (he : P.underlying e = some (.int k)) (hce : P.cellsOf e = 1) (hct : P.cellsOf t = n) : Lib.TabIs P W name k zs := by
  obtain ⟨ps, hv, _⟩ := h
  obtain ⟨g', t', cs, fuel, p, h1, h2, h3, h4⟩ := laid_mem hv hm
  obtain rfl := Option.some.inj (hg.symm.trans h1)
  obtain rfl := Option.some.inj (hty.symm.trans h2)
  have hcs := Lib.cells_of_tab ht he hce hct h4
  unfold Lib.TabIs
  rw [h3]
  congr 1
  exact Array.ext' (by simpa using hcs)
theorem ten_of {W : World} {l : List (String × DataW Unit)} (h : laidMet Tryz.prog l W) (hm : ("internal/strconv.uint64pow10", Lib.tabData .u64 z10) ∈ l) : Ten W := by
  have e : Lib.pow10Tab = z10 := by kernel_rfl
  unfold Ten
  rw [e]
  exact tab_mem (g := 2) h hm (by kernel_rfl) (by kernel_rfl) Tryz.underlying211 Tryz.underlying71 (by kernel_rfl) (by kernel_rfl)

/-- A contract of plain values that only grows the world. -/
theorem c_calls {P : Program} {w0 : World} {m : Mem} {f : FuncId} {args : List Value} {v : Value} {Q : Value → Mem → Prop} (hcall : callOk P f = true) (ha : args.all (plainV 6) = true) (hv : plainV 6 v = true)
    (h : ∀ (G : Loc) (w : World), St P w0 G m w → Calls P f args.toArray w fun e w' => e = .returned v ∧ Below w.heap.size w w') (hq : Q v m) : AbC P w0 f args m Q := by
  intro G w args' hs hargs
  have ha' : ∀ u ∈ args, plainV 6 u = true := by simpa [List.all_eq_true] using ha
  have he : args' = args := VRs.plain_eq hargs fun u hu u' hr => VR.plain_eq 6 u u' (ha' u hu) hr
  subst he
  rw [run_callFunc_enter hcall]
  show Calls _ _ _ _ _
  refine (h G w hs).mono ?_
  rintro e w' ⟨rfl, hb⟩
  exact ⟨v, rfl, G, v, m, Loc.le_refl G, VR.plain 6 v hv, hs.grown hb, hq⟩

/-- A number as a text. -/
def numS (B : Nat) (i : Int) : List UInt8 := sgn (decide (i < 0)) ++ digs B i.natAbs
theorem dec_digs : ∀ u, Lib.decDigits u = digs 10 u := by
  intro u
  induction u using Nat.strongRecOn with
  | _ u ih =>
    rw [Lib.decDigits]
    split
    · rename_i h
      rw [digs_lt h]; simp [digC, h]
    · rename_i h
      rw [digs_ge (by omega) (by omega), ih (u / 10) (by omega)]
      simp [digC, Nat.mod_lt]
theorem itoa_numS (n : Int) : Lib.itoa n = numS 10 n := by
  unfold Lib.itoa numS sgn
  by_cases h : n < 0
  · simp [h, dec_digs]
  · have : n.toNat = n.natAbs := by omega
    simp [h, dec_digs, this]

theorem c_fmt10 {w0 : World} {m : Mem} {n : Int} {Q : Value → Mem → Prop} (ht : Ten w0) (hn : -9223372036854775808 ≤ n ∧ n ≤ 9223372036854775807) (hq : Q (.string ⟨⟨numS 10 n⟩⟩) m) :
    AbC Tryz.prog w0 94 [.int .i64 n, .int .i64 10] m Q := by
  refine c_calls (v := .string ⟨⟨numS 10 n⟩⟩) (by kernel_rfl) rfl rfl (fun G w hs => ?_) hq
  refine (Tryz.internal_strconv_FormatInt_10 n hn.1 hn.2 w (tab_at ht hs)).mono ?_
  rintro e w' ⟨rfl, k, os, rfl⟩
  exact ⟨by rw [itoa_numS], Lib.below_grow _ w (Nat.le_refl _) k os⟩

theorem c_fmtP {w0 : World} {m : Mem} {B k : Nat} {i : Int} {Q : Value → Mem → Prop} (hp : Part L0 m) (hB : B = 2 ^ k) (hk : 3 ≤ k ∧ k ≤ 5) (h10 : B ≠ 10) (hi : -9223372036854775808 ≤ i ∧ i ≤ 9223372036854775807)
    (h1 : outIs (.bool true) (callE tab (xCall xs) Tryz.prog 50 120 [.int .i64 (B : Int)] L0) = true)
    (h2 : outIs (.int .i64 (k : Int)) (callE tab (xCall xs) Tryz.prog 50 121 [.int .u64 (B : Int)] L0) = true)
    (hq : ∀ m', Old m m' → Q (.string ⟨⟨numS B i⟩⟩) m') : AbC Tryz.prog w0 94 [.int .i64 i, .int .i64 (B : Int)] m Q := by
  refine AbC_fn ok94 (by simp) ?_
  have f2 : (B : Int) ≠ 10 := by omega
  simp -implicitDefEqProofs (disch := first | assumption | (simp only [wnA]; done) | (simp only [wnA]; omega) | omega | fail) [rc94, ro94, wkA, retV, stabOk, dC, ev, fillD, pickCells, putAt, bnd, slD, List.getElem?_cons_zero, List.getElem?_cons_succ, dR.eq_20, Mem.cell, Mem.row, wmA, beqF f2, rc94_3]
  refine c_fmtBits (k := k) (a := i.natAbs) hp hB hk h10 (by omega) ?_ h1 h2 fun m' ho => ?_
  · by_cases hn : i < 0
    · simp only [hn, decide_true, if_true]
      congr 1; omega
    · simp only [hn, decide_false, Bool.false_eq_true, if_false]
      rw [IntWalk.u64_in _ (by omega)]; omega
  · simp -implicitDefEqProofs (disch := first | assumption | (simp only [wnA]; done) | (simp only [wnA]; omega) | omega | fail) [wkA, retV, stabOk, dC, ev, fillD, pickCells, putAt, bnd, slD, List.getElem?_cons_zero, List.getElem?_cons_succ, dR.eq_20, Mem.cell, Mem.row, wmA]
    exact hq m' ho

theorem pow8 : outIs (.bool true) (callE tab (xCall xs) Tryz.prog 50 120 [.int .i64 ((8 : Nat) : Int)] L0) = true := by kernel_rfl
theorem tz8 : outIs (.int .i64 ((3 : Nat) : Int)) (callE tab (xCall xs) Tryz.prog 50 121 [.int .u64 ((8 : Nat) : Int)] L0) = true := by kernel_rfl
theorem pow16 : outIs (.bool true) (callE tab (xCall xs) Tryz.prog 50 120 [.int .i64 ((16 : Nat) : Int)] L0) = true := by kernel_rfl
theorem tz16 : outIs (.int .i64 ((4 : Nat) : Int)) (callE tab (xCall xs) Tryz.prog 50 121 [.int .u64 ((16 : Nat) : Int)] L0) = true := by kernel_rfl

theorem c_Itoa {w0 : World} {m : Mem} {i : Int} {Q : Value → Mem → Prop} (ht : Ten w0) (hi : -9223372036854775808 ≤ i ∧ i ≤ 9223372036854775807) (hq : Q (.string ⟨⟨numS 10 i⟩⟩) m) : AbC Tryz.prog w0 61 [.int .i64 i] m Q := by
  refine AbC_fn ok61 (by simp) ?_
  simp -implicitDefEqProofs (disch := first | assumption | (simp only [wnA]; done) | (simp only [wnA]; omega) | omega | fail) [rc61, ro61, wkA, retV, stabOk, dC, ev, fillD, pickCells, putAt, bnd, slD, List.getElem?_cons_zero, List.getElem?_cons_succ, dR.eq_20, Mem.cell, Mem.row, wmA]
  refine AbC_fn ok83 (by simp) ?_
  simp -implicitDefEqProofs (disch := first | assumption | (simp only [wnA]; done) | (simp only [wnA]; omega) | omega | fail) [rc83, ro83, wkA, retV, stabOk, dC, ev, fillD, pickCells, putAt, bnd, slD, List.getElem?_cons_zero, List.getElem?_cons_succ, dR.eq_20, Mem.cell, Mem.row, wmA]
  refine c_fmt10 ht hi ?_
  simp -implicitDefEqProofs (disch := first | assumption | (simp only [wnA]; done) | (simp only [wnA]; omega) | omega | fail) [wkA, retV, stabOk, dC, ev, fillD, pickCells, putAt, bnd, slD, List.getElem?_cons_zero, List.getElem?_cons_succ, dR.eq_20, Mem.cell, Mem.row, wmA]
  exact hq

/-- How long a number's text is. -/
theorem numS_len {B : Nat} (hB : 2 ≤ B) {i : Int} {L : Nat} (hi : i.natAbs < B ^ L) (hL : 1 ≤ L) : (numS B i).length ≤ L + 1 := by
  have := digs_len hB L _ hi
  unfold numS sgn
  split <;> simp <;> omega
theorem numS_pos {B : Nat} {i : Int} : 1 ≤ (numS B i).length := by
  have := digs_pos B i.natAbs
  unfold numS
  simp; omega
end Go.Proofs.YtjlicambfepfiaaGreatDoor.Ab

set_option linter.unusedVariables false
set_option linter.unusedSimpArgs false
namespace Go.Proofs.YtjlicambfepfiaaGreatDoor.Ab
open Go Go.RowKit
set_option maxHeartbeats 4000000
set_option maxRecDepth 100000

/-- A builder in block i that holds these bytes: it and its row lie behind what was there. -/
def Bld (base m : Mem) (i : Nat) (bs : List UInt8) : Prop := Old base m ∧ base.next ≤ i ∧ i < m.next ∧ ∃ pa ob, m.get i = .own [pa, slV ob bs.length 1] 96 ∧ (pa = .pointer none ∨ pa = .pointer (some ⟨i, 0, none⟩)) ∧
  SlO m 5 1 ob (bs.map byteV) bs.length ∧ (bs = [] → ob = none) ∧ ∀ b, ob = some b → base.next ≤ b ∧ b ≠ i

theorem Bld.new {base m : Mem} (h : Old base m) : Bld base (m.push (.own [.pointer none, .slice none 0 0] 96)) m.next [] :=
  ⟨h.push _, h.1, by simp, .pointer none, none, by simp [slV], .inl rfl, ⟨rfl, rfl⟩, fun _ => rfl, fun b hb => by cases hb⟩

theorem c_copyCheck {w0 : World} {m : Mem} {i : Nat} {pa v : Value} {Q : Value → Mem → Prop} (hi : m.get i = .own [pa, v] 96) (hpa : pa = .pointer none ∨ pa = .pointer (some ⟨i, 0, none⟩))
    (hq : ∀ m', m'.next = m.next → m'.get i = .own [.pointer (some ⟨i, 0, none⟩), v] 96 → (∀ k, k ≠ i → m'.get k = m.get k) → Q (.tuple ⟨[]⟩) m') :
    AbC Tryz.prog w0 59 [.pointer (some ⟨i, 0, none⟩)] m Q := by
  refine AbC_fn ok59 (by simp) ?_
  rcases hpa with rfl | rfl
  · simp -implicitDefEqProofs (disch := first | assumption | (simp only [wnA]; done) | (simp only [wnA]; omega) | omega | fail) [rc59, ro59, wkA, retV, stabOk, dC, ev, fillD, pickCells, putAt, bnd, slD, List.getElem?_cons_zero, List.getElem?_cons_succ, dR.eq_20, Mem.cell, Mem.row, wmA, hi]
    refine x_same xis81 ?_
    simp -implicitDefEqProofs (disch := first | assumption | (simp only [wnA]; done) | (simp only [wnA]; omega) | omega | fail) [wkA, retV, stabOk, dC, ev, fillD, pickCells, putAt, bnd, slD, List.getElem?_cons_zero, List.getElem?_cons_succ, dR.eq_20, Mem.cell, Mem.row, wmA, hi]
    refine SK_st (i := i) (o := 0) (by simp [wkA, retV, stabOk, dC, ev, fillD, pickCells, putAt, bnd, slD, List.getElem?_cons_zero, List.getElem?_cons_succ, dR.eq_20]) (e := 96) hi (by simp) (by simp [wkA, retV, stabOk, dC, ev, fillD, pickCells, putAt, bnd, slD, List.getElem?_cons_zero, List.getElem?_cons_succ, dR.eq_20]) (by simp [wkA, retV, stabOk, dC, ev, fillD, pickCells, putAt, bnd, slD, List.getElem?_cons_zero, List.getElem?_cons_succ, dR.eq_20, oneC]) ?_
    simp -implicitDefEqProofs (disch := first | assumption | (simp only [wnA]; done) | (simp only [wnA]; omega) | omega | fail) [wkA, retV, stabOk, dC, ev, fillD, pickCells, putAt, bnd, slD, List.getElem?_cons_zero, List.getElem?_cons_succ, dR.eq_20, Mem.cell, Mem.row, wmA]
    exact hq _ rfl (by simp) fun k hk => Mem.set_other _ _ hk
  · simp -implicitDefEqProofs (disch := first | assumption | (simp only [wnA]; done) | (simp only [wnA]; omega) | omega | fail) [rc59, ro59, wkA, retV, stabOk, dC, ev, fillD, pickCells, putAt, bnd, slD, List.getElem?_cons_zero, List.getElem?_cons_succ, dR.eq_20, Mem.cell, Mem.row, wmA, hi]
    exact hq m rfl hi fun _ _ => rfl

/-- More bytes lie behind. -/
theorem Bld.more {base m m1 : Mem} {i : Nat} {bs cs : List UInt8} {pa : Value} {ob : Option Nat} (h : Bld base m i bs) (hn : m1.next = m.next) (hi : m1.get i = .own [.pointer (some ⟨i, 0, none⟩), slV ob bs.length 1] 96)
    (ho : ∀ k, k ≠ i → m1.get k = m.get k) (hob : ∀ b, ob = some b → base.next ≤ b ∧ b ≠ i) (hcs : cs ≠ []) :
    Bld base (((m1.kill ob).push (.own (bs.map byteV ++ cs.map byteV) 5)).set i (.own [.pointer (some ⟨i, 0, none⟩), slV (some m1.next) (bs.length + cs.length) 1] 96)) i (bs ++ cs) := by
  obtain ⟨h1, h2, h3, pa', ob', h4, h5, h6, hz, h7⟩ := h
  have hold : Old base m1 := ⟨by rw [hn]; exact h1.1, fun k hk => by rw [ho k (by omega), h1.2 k hk]⟩
  refine ⟨((hold.kill fun b hb => (hob b hb).1).push _).set h2 _, h2, by simp [Mem.kill_nxt]; omega, _, some m1.next, by simp, .inr rfl, ⟨by simp, ?_⟩, fun hb => absurd (List.append_eq_nil_iff.1 hb).2 hcs, fun b hb => by cases hb; exact ⟨by rw [hn]; exact Nat.le_trans h2 (by omega), by omega⟩⟩
  refine ⟨?_, by simp [Mem.kill_nxt]⟩
  rw [Mem.set_other _ _ (by omega)]
  simp [Mem.push_get, Mem.kill_nxt]

theorem c_WriteByte {w0 : World} {base m : Mem} {i : Nat} {bs : List UInt8} {b : UInt8} {Q : Value → Mem → Prop} (h : Bld base m i bs) (hl : bs.length + 1 ≤ 140737488355328) (hq : ∀ m', Bld base m' i (bs ++ [b]) → Q .nilIface m') :
    AbC Tryz.prog w0 62 [.pointer (some ⟨i, 0, none⟩), .int .u8 b.toNat] m Q := by
  refine AbC_fn ok62 (by simp) ?_
  have h0 := h
  obtain ⟨h1, h2, h3, pa, ob, h4, h5, h6, hz, h7⟩ := h
  simp -implicitDefEqProofs (disch := first | assumption | (simp only [wnA]; done) | (simp only [wnA]; omega) | omega | fail) [rc62, ro62, wkA, retV, stabOk, dC, ev, fillD, pickCells, putAt, bnd, slD, List.getElem?_cons_zero, List.getElem?_cons_succ, dR.eq_20, Mem.cell, Mem.row, wmA]
  refine c_copyCheck h4 h5 fun m1 n1 g1 o1 => ?_
  simp -implicitDefEqProofs (disch := first | assumption | (simp only [wnA]; done) | (simp only [wnA]; omega) | omega | fail) [wkA, retV, stabOk, dC, ev, fillD, pickCells, putAt, bnd, slD, List.getElem?_cons_zero, List.getElem?_cons_succ, dR.eq_20, Mem.cell, Mem.row, wmA, g1]
  rw [SK_bsl (cs := [.int .u8 b.toNat]) (by simp [wkA, retV, stabOk, dC, ev, fillD, pickCells, putAt, bnd, slD, List.getElem?_cons_zero, List.getElem?_cons_succ, dR.eq_20]) (by simp)]
  have hs1 : SlO m1 5 1 ob (bs.map byteV) bs.length := h6.keep (Nat.le_of_eq n1.symm) fun k hk => o1 _ (h7 k hk).2
  simp -implicitDefEqProofs (disch := first | assumption | (simp only [wnA]; done) | (simp only [wnA]; omega) | omega | fail) [wkA, retV, stabOk, dC, ev, fillD, pickCells, putAt, bnd, slD, List.getElem?_cons_zero, List.getElem?_cons_succ, dR.eq_20, Mem.cell, Mem.row, wmA, g1]
  have hne : ob ≠ some m1.next := hs1.old (Nat.le_refl _)
  refine SK_ap (hs1.push _) (by simp [wkA, retV, stabOk, dC, ev, fillD, pickCells, putAt, bnd, slD, List.getElem?_cons_zero, List.getElem?_cons_succ, dR.eq_20]) (ys := [.int .u8 b.toNat]) (by simp -implicitDefEqProofs (disch := first | assumption | (simp only [wnA]; done) | (simp only [wnA]; omega) | omega | fail) [wkA, retV, stabOk, dC, ev, fillD, pickCells, putAt, bnd, slD, List.getElem?_cons_zero, List.getElem?_cons_succ, dR.eq_20, elemsV, Mem.cell, Mem.row, wmA]) (k := 1) (by simp [wkA, retV, stabOk, dC, ev, fillD, pickCells, putAt, bnd, slD, List.getElem?_cons_zero, List.getElem?_cons_succ, dR.eq_20]) (by simp) (by simp [oneC]) (by omega) (by simp only [maxLen]; omega) (by simp) ?_
  have hoi : ob ≠ some i := fun e => (h7 i e).2 rfl
  simp -implicitDefEqProofs (disch := first | assumption | (simp only [wnA]; done) | (simp only [wnA]; omega) | omega | fail) [wkA, retV, stabOk, dC, ev, fillD, pickCells, putAt, bnd, slD, List.getElem?_cons_zero, List.getElem?_cons_succ, dR.eq_20, Mem.cell, Mem.row, wmA, g1]
  refine SK_st (i := i) (o := 1) (by simp [wkA, retV, stabOk, dC, ev, fillD, pickCells, putAt, bnd, slD, List.getElem?_cons_zero, List.getElem?_cons_succ, dR.eq_20]) (e := 96) (cs := [.pointer (some ⟨i, 0, none⟩), slV ob bs.length 1]) ?_ (by simp) (by simp [wkA, retV, stabOk, dC, ev, fillD, pickCells, putAt, bnd, slD, List.getElem?_cons_zero, List.getElem?_cons_succ, dR.eq_20]) (by simp [wkA, retV, stabOk, dC, ev, fillD, pickCells, putAt, bnd, slD, List.getElem?_cons_zero, List.getElem?_cons_succ, dR.eq_20]) ?_
  · rw [Mem.push_old _ _ (by simp [Mem.kill_nxt]; omega), Mem.kill_other _ hoi, Mem.push_old _ _ (by omega)]
    exact g1
  simp -implicitDefEqProofs (disch := first | assumption | (simp only [wnA]; done) | (simp only [wnA]; omega) | omega | fail) [wkA, retV, stabOk, dC, ev, fillD, pickCells, putAt, bnd, slD, List.getElem?_cons_zero, List.getElem?_cons_succ, dR.eq_20, Mem.cell, Mem.row, wmA]
  refine hq _ ?_
  have hb : Bld base (m1.push (.own [.int .u8 b.toNat] 5)) i bs := ⟨⟨by simp; have := h1.1; omega, fun k hk => by rw [Mem.push_old _ _ (by have := h1.1; omega), o1 _ (by omega), h1.2 k hk]⟩, h2, by simp; omega, _, ob, by rw [Mem.push_old _ _ (by omega)]; exact g1, .inr rfl, hs1.push _, hz, h7⟩
  have := hb.more (cs := [b]) (pa := .pointer none) rfl (by rw [Mem.push_old _ _ (by omega)]; exact g1) (fun _ _ => rfl) h7 (by simp)
  simpa [byteV] using this

theorem c_WriteString {w0 : World} {base m : Mem} {i : Nat} {bs : List UInt8} {s : ByteArray} {Q : Value → Mem → Prop} (h : Bld base m i bs) (hl : bs.length + s.size ≤ 140737488355328) (hq : ∀ m', Bld base m' i (bs ++ s.data.toList) → Q (.tuple ⟨[.int .i64 s.size, .nilIface]⟩) m') :
    AbC Tryz.prog w0 38 [.pointer (some ⟨i, 0, none⟩), .string s] m Q := by
  refine AbC_fn ok38 (by simp) ?_
  have h0 := h
  obtain ⟨h1, h2, h3, pa, ob, h4, h5, h6, hz, h7⟩ := h
  simp -implicitDefEqProofs (disch := first | assumption | (simp only [wnA]; done) | (simp only [wnA]; omega) | omega | fail) [rc38, ro38, wkA, retV, stabOk, dC, ev, fillD, pickCells, putAt, bnd, slD, List.getElem?_cons_zero, List.getElem?_cons_succ, dR.eq_20, Mem.cell, Mem.row, wmA]
  refine c_copyCheck h4 h5 fun m1 n1 g1 o1 => ?_
  have hs1 : SlO m1 5 1 ob (bs.map byteV) bs.length := h6.keep (Nat.le_of_eq n1.symm) fun k hk => o1 _ (h7 k hk).2
  have hb : Bld base m1 i bs := ⟨⟨by have := h1.1; omega, fun k hk => by rw [o1 _ (by omega), h1.2 k hk]⟩, h2, by omega, _, ob, g1, .inr rfl, hs1, hz, h7⟩
  have hsz : s.data.toList.length = s.size := by simp
  simp -implicitDefEqProofs (disch := first | assumption | (simp only [wnA]; done) | (simp only [wnA]; omega) | omega | fail) [wkA, retV, stabOk, dC, ev, fillD, pickCells, putAt, bnd, slD, List.getElem?_cons_zero, List.getElem?_cons_succ, dR.eq_20, Mem.cell, Mem.row, wmA, g1]
  have hoi : ob ≠ some i := fun e => (h7 i e).2 rfl
  by_cases h00 : s.size = 0
  · have he : s.data.toList = [] := List.length_eq_zero_iff.1 (by omega)
    have hsk : SK Tryz.prog w0 (.e (.app 5 1 1 (.tmp 12) (.tmp 13))) = SK Tryz.prog w0 (.e (.app 5 1 1 (.tmp 12) (.tmp 13))) := rfl
    have hx : ∀ (ts : Fr) (R : Value → Mem → Prop), ts 12 = slV ob bs.length 1 → ts 13 = .string s → R (slV ob bs.length 1) m1 → SK Tryz.prog w0 (.e (.app 5 1 1 (.tmp 12) (.tmp 13))) ts m1 R := by
      intro ts R e1 e2 hR
      simp only [SK, dE, ev, e1, e2, elemsV, if_true, lenV_str, h00]
      cases ob with
      | none =>
        have := hs1.2
        simp only [slV] at hR ⊢
        exact hR
      | some b => exact hR
    refine hx _ _ (by simp) (by simp) ?_
    simp -implicitDefEqProofs (disch := first | assumption | (simp only [wnA]; done) | (simp only [wnA]; omega) | omega | fail) [wkA, retV, stabOk, dC, ev, fillD, pickCells, putAt, bnd, slD, List.getElem?_cons_zero, List.getElem?_cons_succ, dR.eq_20, Mem.cell, Mem.row, wmA, g1]
    refine SK_st (i := i) (o := 1) (by simp [wkA, retV, stabOk, dC, ev, fillD, pickCells, putAt, bnd, slD, List.getElem?_cons_zero, List.getElem?_cons_succ, dR.eq_20]) (e := 96) (cs := [.pointer (some ⟨i, 0, none⟩), slV ob bs.length 1]) g1 (by simp) (by simp [wkA, retV, stabOk, dC, ev, fillD, pickCells, putAt, bnd, slD, List.getElem?_cons_zero, List.getElem?_cons_succ, dR.eq_20]) (by simp [wkA, retV, stabOk, dC, ev, fillD, pickCells, putAt, bnd, slD, List.getElem?_cons_zero, List.getElem?_cons_succ, dR.eq_20]) ?_
    simp -implicitDefEqProofs (disch := first | assumption | (simp only [wnA]; done) | (simp only [wnA]; omega) | omega | fail) [wkA, retV, stabOk, dC, ev, fillD, pickCells, putAt, bnd, slD, List.getElem?_cons_zero, List.getElem?_cons_succ, dR.eq_20, Mem.cell, Mem.row, wmA]
    refine hq _ ?_
    rw [he, List.append_nil]
    obtain ⟨a1, a2, a3, _⟩ := hb
    refine ⟨a1.set h2 _, h2, by simpa using a3, _, ob, by simp, .inr rfl, hs1.set hoi _, hz, h7⟩
  · refine SK_ap hs1 (by simp [wkA, retV, stabOk, dC, ev, fillD, pickCells, putAt, bnd, slD, List.getElem?_cons_zero, List.getElem?_cons_succ, dR.eq_20]) (ys := s.data.toList.map byteV) (by simp -implicitDefEqProofs (disch := first | assumption | (simp only [wnA]; done) | (simp only [wnA]; omega) | omega | fail) [wkA, retV, stabOk, dC, ev, fillD, pickCells, putAt, bnd, slD, List.getElem?_cons_zero, List.getElem?_cons_succ, dR.eq_20, elemsV, Mem.cell, Mem.row, wmA]) (k := s.size) (by simp [wkA, retV, stabOk, dC, ev, fillD, pickCells, putAt, bnd, slD, List.getElem?_cons_zero, List.getElem?_cons_succ, dR.eq_20]) (by omega) (byteV_oneC _) (by omega) (by simp only [maxLen]; omega) (by simp) ?_
    simp -implicitDefEqProofs (disch := first | assumption | (simp only [wnA]; done) | (simp only [wnA]; omega) | omega | fail) [wkA, retV, stabOk, dC, ev, fillD, pickCells, putAt, bnd, slD, List.getElem?_cons_zero, List.getElem?_cons_succ, dR.eq_20, Mem.cell, Mem.row, wmA, g1]
    refine SK_st (i := i) (o := 1) (by simp [wkA, retV, stabOk, dC, ev, fillD, pickCells, putAt, bnd, slD, List.getElem?_cons_zero, List.getElem?_cons_succ, dR.eq_20]) (e := 96) (cs := [.pointer (some ⟨i, 0, none⟩), slV ob bs.length 1]) ?_ (by simp) (by simp [wkA, retV, stabOk, dC, ev, fillD, pickCells, putAt, bnd, slD, List.getElem?_cons_zero, List.getElem?_cons_succ, dR.eq_20]) (by simp [wkA, retV, stabOk, dC, ev, fillD, pickCells, putAt, bnd, slD, List.getElem?_cons_zero, List.getElem?_cons_succ, dR.eq_20]) ?_
    · rw [Mem.push_old _ _ (by simp [Mem.kill_nxt]; omega), Mem.kill_other _ hoi]
      exact g1
    simp -implicitDefEqProofs (disch := first | assumption | (simp only [wnA]; done) | (simp only [wnA]; omega) | omega | fail) [wkA, retV, stabOk, dC, ev, fillD, pickCells, putAt, bnd, slD, List.getElem?_cons_zero, List.getElem?_cons_succ, dR.eq_20, Mem.cell, Mem.row, wmA]
    refine hq _ ?_
    have := hb.more (cs := s.data.toList) (pa := .pointer none) rfl g1 (fun _ _ => rfl) h7 (fun e => h00 (by rw [← hsz, e]; rfl))
    simpa using this

theorem bytesOf_map : ∀ (l : List UInt8), bytesOf (l.map byteV) = some l
  | [] => rfl
  | b :: l => by
    show (bytesOf (l.map byteV)).map (UInt8.ofNat ((b.toNat : Int).toNat) :: ·) = _
    rw [bytesOf_map l]
    simp

theorem c_BString {w0 : World} {base m : Mem} {i : Nat} {bs : List UInt8} {Q : Value → Mem → Prop} (h : Bld base m i bs) (hl : bs.length ≤ 140737488355328) (hq : ∀ m', Old base m' → Q (.string ⟨⟨bs⟩⟩) m') :
    AbC Tryz.prog w0 40 [.pointer (some ⟨i, 0, none⟩)] m Q := by
  refine AbC_fn ok40 (by simp) ?_
  obtain ⟨h1, h2, h3, pa, ob, h4, h5, h6, hz, h7⟩ := h
  cases ob with
  | none =>
    have h0 : bs.length = 0 := h6.2
    have h00 : bs = [] := List.length_eq_zero_iff.1 h0
    subst h00
    simp only [slV] at h4
    simp -implicitDefEqProofs (disch := first | assumption | (simp only [wnA]; done) | (simp only [wnA]; omega) | omega | fail) [rc40, ro40, wkA, retV, stabOk, dC, ev, fillD, pickCells, putAt, bnd, slD, List.getElem?_cons_zero, List.getElem?_cons_succ, dR.eq_20, Mem.cell, Mem.row, wmA, h4]
    simp only [SK, dE, ev, upd_at]
    simp -implicitDefEqProofs (disch := first | assumption | (simp only [wnA]; done) | (simp only [wnA]; omega) | omega | fail) [wkA, retV, stabOk, dC, ev, fillD, pickCells, putAt, bnd, slD, List.getElem?_cons_zero, List.getElem?_cons_succ, dR.eq_20, Mem.cell, Mem.row, wmA]
    exact hq _ h1
  | some b =>
    have hne : bs ≠ [] := fun e => by have := hz e; cases this
    have hpos : 0 < bs.length := List.length_pos_iff.2 hne
    obtain ⟨q1, q2, q3⟩ := h6
    obtain ⟨r1, r2⟩ := h7 b rfl
    rw [slV_some] at h4
    simp -implicitDefEqProofs (disch := first | assumption | (simp only [wnA]; done) | (simp only [wnA]; omega) | omega | fail) [rc40, ro40, wkA, retV, stabOk, dC, ev, fillD, pickCells, putAt, bnd, slD, List.getElem?_cons_zero, List.getElem?_cons_succ, dR.eq_20, Mem.cell, Mem.row, wmA, h4, hpos]
    have hrow : (List.map byteV bs).take bs.length = bs.map byteV := by
      rw [List.take_of_length_le (by simp)]
    have hk : ¬ ((bs.length : Int) = 0) := by omega
    have hk2 : (0 : Int) < bs.length ∧ (bs.length : Int) ≤ 9223372036854775807 := by omega
    simp only [SK, dE, ev, upd_at]
    simp -implicitDefEqProofs (disch := first | assumption | (simp only [wnA]; done) | (simp only [wnA]; omega) | omega | fail) [q2, hk, hk2, hrow, bytesOf_map, hne, hpos]
    simp -implicitDefEqProofs (disch := first | assumption | (simp only [wnA]; done) | (simp only [wnA]; omega) | omega | fail) [wkA, retV, stabOk, dC, ev, fillD, pickCells, putAt, bnd, slD, List.getElem?_cons_zero, List.getElem?_cons_succ, dR.eq_20, Mem.cell, Mem.row, wmA]
    exact hq _ (h1.set r1 _)
end Go.Proofs.YtjlicambfepfiaaGreatDoor.Ab

set_option linter.unusedVariables false
set_option linter.unusedSimpArgs false
namespace Go.Proofs.YtjlicambfepfiaaGreatDoor.Ab
open Go Go.RowKit
set_option maxHeartbeats 4000000
set_option maxRecDepth 100000

def escC (c : UInt8) : Option (List UInt8) :=
  if c.toNat = 13 then some [92, 114] else if c.toNat = 10 then some [92, 110] else if c.toNat < 32 ∨ 126 < c.toNat then none else if c.toNat = 34 ∨ c.toNat = 92 then some [92, c] else some [c]
def escL : List UInt8 → Option (List UInt8)
  | [] => some []
  | c :: l => match escC c, escL l with
    | some a, some b => some (a ++ b)
    | _, _ => none
theorem escL_snoc : ∀ {l e : List UInt8} {c : UInt8} {a : List UInt8}, escL l = some e → escC c = some a → escL (l ++ [c]) = some (e ++ a)
  | [], e, c, a, h, ha => by simp [escL] at h; subst h; simp [escL, ha]
  | x :: l, e, c, a, h, ha => by
    simp only [escL] at h
    split at h
    · rename_i p q hp hq
      simp at h; subst h
      simp [escL, hp, escL_snoc hq ha]
    · cases h
theorem escL_none : ∀ {l r : List UInt8} {c : UInt8}, escC c = none → escL (l ++ c :: r) = none
  | [], r, c, h => by simp [escL, h]
  | x :: l, r, c, h => by simp only [List.cons_append, escL, escL_none h]; split <;> first | rfl | (rename_i h1 h2; cases h2)
theorem escC_len {c : UInt8} {a : List UInt8} (h : escC c = some a) : 1 ≤ a.length ∧ a.length ≤ 2 := by
  unfold escC at h
  split at h
  · simp at h; subst h; simp
  · split at h
    · simp at h; subst h; simp
    · split at h
      · cases h
      · split at h <;> (simp at h; subst h; simp)
theorem escL_len : ∀ {l e : List UInt8}, escL l = some e → e.length ≤ 2 * l.length
  | [], e, h => by simp [escL] at h; subst h; simp
  | x :: l, e, h => by
    simp only [escL] at h
    split at h
    · rename_i p q hp hq
      simp at h; subst h
      have := (escC_len hp).2
      have := escL_len hq
      simp; omega
    · cases h
/-- What Quote yields. -/
def quoteV (l : List UInt8) : Value := match escL l with
  | some e => .tuple ⟨[.string ⟨⟨34 :: (e ++ [34])⟩⟩, .bool true]⟩
  | none => .tuple ⟨[.string ⟨⟨[]⟩⟩, .bool false]⟩
theorem take_succ' {l : List UInt8} {j : Nat} {c : UInt8} (h : l[j]? = some c) : l.take (j + 1) = l.take j ++ [c] := by
  rw [List.take_add_one, h]; rfl
theorem split_at {l : List UInt8} {j : Nat} {c : UInt8} (h : l[j]? = some c) : l = l.take j ++ c :: l.drop (j + 1) := by
  obtain ⟨hj, rfl⟩ := List.getElem?_eq_some_iff.1 h
  rw [← List.drop_eq_getElem_cons hj, List.take_append_drop]
theorem ba_get {s : ByteArray} {j : Nat} (h : j < s.size) : s[j]? = some s[j] ∧ s.data.toList[j]? = some s[j] := by
  refine ⟨getElem?_pos s j h, ?_⟩
  have hl : j < s.data.toList.length := by simpa using h
  rw [List.getElem?_eq_getElem hl]
  rfl
theorem ba_ext1 {s : ByteArray} {j : Nat} (h : j < s.size) : s.extract j (j + 1) = ⟨⟨[s[j]]⟩⟩ := by
  apply ByteArray.ext
  apply Array.ext'
  obtain ⟨_, h2⟩ := ba_get h
  simp only [ByteArray.data_extract, Array.toList_extract]
  rw [List.extract_eq_take_drop, show j + 1 - j = 1 from by omega]
  rw [split_at h2]
  simp only [List.drop_append, List.length_take]
  have hl : j < s.data.toList.length := by simpa using h
  rw [Nat.min_eq_left (by omega), Nat.sub_self]
  simp [List.drop_take]

theorem c_Quote {w0 : World} {m : Mem} {s : ByteArray} {Q : Value → Mem → Prop} (hl : s.size ≤ 1099511627776) (hq : ∀ m', Old m m' → Q (quoteV s.data.toList) m') :
    AbC Tryz.prog w0 41 [.string s] m Q := by
  refine AbC_fn ok41 (by simp) ?_
  simp -implicitDefEqProofs (disch := first | assumption | (simp only [wnA]; done) | (simp only [wnA]; omega) | omega | fail) [rc41, ro41, wkA, retV, stabOk, dC, ev, fillD, pickCells, putAt, bnd, slD, List.getElem?_cons_zero, List.getElem?_cons_succ, dR.eq_20, Mem.cell, Mem.row, wmA]
  refine c_WriteByte (b := 34) (Bld.new (Old.refl m)) (by simp) fun m1 h1 => ?_
  simp -implicitDefEqProofs (disch := first | assumption | (simp only [wnA]; done) | (simp only [wnA]; omega) | omega | fail) [wkA, retV, stabOk, dC, ev, fillD, pickCells, putAt, bnd, slD, List.getElem?_cons_zero, List.getElem?_cons_succ, dR.eq_20, Mem.cell, Mem.row, wmA]
  refine LoopW_of (fun k ts m' => ∃ j e, j + k = s.size ∧ ts 0 = .string s ∧ ts 9 = .int .i64 (s.size : Nat) ∧ ts 10 = .int .i64 (j : Nat) ∧ ts 4 = .pointer (some ⟨m.next, 0, none⟩) ∧ escL (s.data.toList.take j) = some e ∧ Bld m m' m.next (34 :: e)) s.size ?_ ?_
  · exact ⟨0, [], by omega, by simp [frA_at], by simp, by simp, by simp, by simp [escL], by simpa using h1⟩
  · rintro k ts m2 K ⟨j, e, hj, t0, t9, t10, t4, he, hb⟩ hK
    have hel := escL_len he
    have htl : (s.data.toList.take j).length ≤ j := by simp; omega
    simp -implicitDefEqProofs (disch := first | assumption | (simp only [wnA]; done) | (simp only [wnA]; omega) | omega | fail) [rc41_1, wkA, retV, stabOk, dC, ev, fillD, pickCells, putAt, bnd, slD, List.getElem?_cons_zero, List.getElem?_cons_succ, dR.eq_20, Mem.cell, Mem.row, wmA, t9, t10]
    by_cases hjl : j < s.size
    · obtain ⟨g1, g2⟩ := ba_get hjl
      have ge := ba_ext1 hjl
      have fin : ∀ (a : List UInt8) (ts' : Fr) (m' : Mem), escC s[j] = some a → Bld m m' m.next (34 :: e ++ a) → ts' 0 = ts 0 → ts' 9 = ts 9 → ts' 4 = ts 4 → ts' 10 = .int .i64 ((j + 1 : Nat) : Int) → K ts' m' := fun a ts' m' ha hb' r0 r9 r4 r10 =>
        hK (k - 1) ts' m' (by omega) ⟨j + 1, e ++ a, by omega, by rw [r0, t0], by rw [r9, t9], r10, by rw [r4, t4], by rw [take_succ' g2]; exact escL_snoc he ha, by simpa using hb'⟩
      have bad : escC s[j] = none → ∀ m', Old m m' → Q (.tuple ⟨[.string ⟨⟨[]⟩⟩, .bool false]⟩) m' := fun hn m' ho => by
        have := hq m' ho
        rw [split_at g2] at this
        simpa [quoteV, escL_none hn] using this
      simp -implicitDefEqProofs (disch := first | assumption | (simp only [wnA]; done) | (simp only [wnA]; omega) | omega | fail) [hjl, rc41_0, wkA, retV, stabOk, dC, ev, fillD, pickCells, putAt, bnd, slD, List.getElem?_cons_zero, List.getElem?_cons_succ, dR.eq_20, Mem.cell, Mem.row, wmA, t0, t10, g1]
      have cls : (s[j]).toNat = 13 ∨ (s[j]).toNat = 10 ∨ ((s[j]).toNat < 32 ∧ (s[j]).toNat ≠ 13 ∧ (s[j]).toNat ≠ 10) ∨ (s[j]).toNat = 34 ∨ (s[j]).toNat = 92 ∨ (32 ≤ (s[j]).toNat ∧ (s[j]).toNat ≤ 126 ∧ (s[j]).toNat ≠ 34 ∧ (s[j]).toNat ≠ 92) ∨ 126 < (s[j]).toNat := by omega
      rcases cls with h | h | h | h | h | h | h
      · simp -implicitDefEqProofs (disch := first | assumption | (simp only [wnA]; done) | (simp only [wnA]; omega) | omega | fail) [beqT, wkA, retV, stabOk, dC, ev, fillD, pickCells, putAt, bnd, slD, List.getElem?_cons_zero, List.getElem?_cons_succ, dR.eq_20, Mem.cell, Mem.row, wmA, t4]
        refine c_WriteString hb (by show (34 :: e).length + 2 ≤ _; simp; omega) fun m3 h3 => ?_
        simp -implicitDefEqProofs (disch := first | assumption | (simp only [wnA]; done) | (simp only [wnA]; omega) | omega | fail) [wkA, retV, stabOk, dC, ev, fillD, pickCells, putAt, bnd, slD, List.getElem?_cons_zero, List.getElem?_cons_succ, dR.eq_20, Mem.cell, Mem.row, wmA, t10, w64]
        exact fin [92, 114] _ _ (by simp [escC, h]) (by simpa using h3) (by simp) (by simp) (by simp) (by simp)
      · simp -implicitDefEqProofs (disch := first | assumption | (simp only [wnA]; done) | (simp only [wnA]; omega) | omega | fail) [beqT, beqF, wkA, retV, stabOk, dC, ev, fillD, pickCells, putAt, bnd, slD, List.getElem?_cons_zero, List.getElem?_cons_succ, dR.eq_20, Mem.cell, Mem.row, wmA, t4]
        refine c_WriteString hb (by show (34 :: e).length + 2 ≤ _; simp; omega) fun m3 h3 => ?_
        simp -implicitDefEqProofs (disch := first | assumption | (simp only [wnA]; done) | (simp only [wnA]; omega) | omega | fail) [wkA, retV, stabOk, dC, ev, fillD, pickCells, putAt, bnd, slD, List.getElem?_cons_zero, List.getElem?_cons_succ, dR.eq_20, Mem.cell, Mem.row, wmA, t10, w64]
        exact fin [92, 110] _ _ (by simp [escC, h]) (by simpa using h3) (by simp) (by simp) (by simp) (by simp)
      · simp -implicitDefEqProofs (disch := first | assumption | (simp only [wnA]; done) | (simp only [wnA]; omega) | omega | fail) [beqT, beqF, ltT, ltF, gtT, gtF, wkA, retV, stabOk, dC, ev, fillD, pickCells, putAt, bnd, slD, List.getElem?_cons_zero, List.getElem?_cons_succ, dR.eq_20, Mem.cell, Mem.row, wmA, t4]
        exact bad (by simp [escC, h]) _ hb.1
      all_goals first
        | (have hcat : (⟨#[92]⟩ : ByteArray) ++ ⟨⟨[s[j]]⟩⟩ = ⟨⟨[92, s[j]]⟩⟩ := bApp_eq [92] [s[j]]
           have hb1 : (0 : Int) ≤ (j : Int) + 1 ∧ (j : Int) + 1 ≤ s.size := by omega
           have hb2 : (j : Int) ≤ (j : Int) + 1 := by omega
           have hb3 : ((j : Int) + 1).toNat = j + 1 := by omega
           simp -implicitDefEqProofs (disch := first | assumption | (simp only [wnA]; done) | (simp only [wnA]; omega) | omega | fail) [beqT, beqF, ltT, ltF, gtT, gtF, wkA, retV, stabOk, dC, ev, fillD, pickCells, putAt, bnd, slD, List.getElem?_cons_zero, List.getElem?_cons_succ, dR.eq_20, Mem.cell, Mem.row, wmA, t0, t4, t10, w64, hb1, hb2, hb3, ge]
           rw [dBin_sadd (by show 1 + 1 ≤ _; omega), hcat]
           simp -implicitDefEqProofs (disch := first | assumption | (simp only [wnA]; done) | (simp only [wnA]; omega) | omega | fail) [wkA, retV, stabOk, dC, ev, fillD, pickCells, putAt, bnd, slD, List.getElem?_cons_zero, List.getElem?_cons_succ, dR.eq_20, Mem.cell, Mem.row, wmA, t4]
           refine c_WriteString hb (by show (34 :: e).length + 2 ≤ _; simp; omega) fun m3 h3 => ?_
           simp -implicitDefEqProofs (disch := first | assumption | (simp only [wnA]; done) | (simp only [wnA]; omega) | omega | fail) [wkA, retV, stabOk, dC, ev, fillD, pickCells, putAt, bnd, slD, List.getElem?_cons_zero, List.getElem?_cons_succ, dR.eq_20, Mem.cell, Mem.row, wmA, t10, w64]
           exact fin [92, s[j]] _ _ (by simp [escC, h]) (by simpa using h3) (by simp) (by simp) (by simp) (by simp))
        | (simp -implicitDefEqProofs (disch := first | assumption | (simp only [wnA]; done) | (simp only [wnA]; omega) | omega | fail) [beqT, beqF, ltT, ltF, gtT, gtF, wkA, retV, stabOk, dC, ev, fillD, pickCells, putAt, bnd, slD, List.getElem?_cons_zero, List.getElem?_cons_succ, dR.eq_20, Mem.cell, Mem.row, wmA, t4]
           exact bad (by unfold escC; rw [if_neg (by omega), if_neg (by omega), if_pos (by omega)]) _ hb.1)
        | (simp -implicitDefEqProofs (disch := first | assumption | (simp only [wnA]; done) | (simp only [wnA]; omega) | omega | fail) [beqT, beqF, ltT, ltF, gtT, gtF, wkA, retV, stabOk, dC, ev, fillD, pickCells, putAt, bnd, slD, List.getElem?_cons_zero, List.getElem?_cons_succ, dR.eq_20, Mem.cell, Mem.row, wmA, t4]
           refine c_WriteByte hb (by simp; omega) fun m3 h3 => ?_
           simp -implicitDefEqProofs (disch := first | assumption | (simp only [wnA]; done) | (simp only [wnA]; omega) | omega | fail) [wkA, retV, stabOk, dC, ev, fillD, pickCells, putAt, bnd, slD, List.getElem?_cons_zero, List.getElem?_cons_succ, dR.eq_20, Mem.cell, Mem.row, wmA, t10, w64]
           exact fin [s[j]] _ _ (by unfold escC; rw [if_neg (by omega), if_neg (by omega), if_neg (by omega), if_neg (by omega)]) (by simpa using h3) (by simp) (by simp) (by simp) (by simp))
    · have hjj : j = s.size := by omega
      subst hjj
      simp -implicitDefEqProofs (disch := first | assumption | (simp only [wnA]; done) | (simp only [wnA]; omega) | omega | fail) [hjl, rc41_2, wkA, retV, stabOk, dC, ev, fillD, pickCells, putAt, bnd, slD, List.getElem?_cons_zero, List.getElem?_cons_succ, dR.eq_20, Mem.cell, Mem.row, wmA, t4]
      have hfull : s.data.toList.take s.size = s.data.toList := List.take_of_length_le (by simp)
      rw [hfull] at he
      refine c_BString hb (by simp; omega) fun m3 h3 => ?_
      have hcat : (⟨⟨34 :: e⟩⟩ : ByteArray) ++ ⟨#[34]⟩ = ⟨⟨34 :: (e ++ [34])⟩⟩ := by
        have := bApp_eq (34 :: e) [34]
        simpa using this
      simp -implicitDefEqProofs (disch := first | assumption | (simp only [wnA]; done) | (simp only [wnA]; omega) | omega | fail) [wkA, retV, stabOk, dC, ev, fillD, pickCells, putAt, bnd, slD, List.getElem?_cons_zero, List.getElem?_cons_succ, dR.eq_20, Mem.cell, Mem.row, wmA]
      rw [dBin_sadd (by show (34 :: e).length + 1 ≤ _; simp; omega), hcat]
      simp -implicitDefEqProofs (disch := first | assumption | (simp only [wnA]; done) | (simp only [wnA]; omega) | omega | fail) [wkA, retV, stabOk, dC, ev, fillD, pickCells, putAt, bnd, slD, List.getElem?_cons_zero, List.getElem?_cons_succ, dR.eq_20, Mem.cell, Mem.row, wmA]
      have := hq m3 h3
      simpa [quoteV, he] using this
end Go.Proofs.YtjlicambfepfiaaGreatDoor.Ab

set_option linter.unusedVariables false
set_option linter.unusedSimpArgs false
namespace Go.Proofs.YtjlicambfepfiaaGreatDoor.Ab
open Go Go.RowKit
set_option maxHeartbeats 4000000
set_option maxRecDepth 100000

/-- A builder that may have an empty row. -/
def BldG (base m : Mem) (i : Nat) (bs : List UInt8) : Prop := Old base m ∧ base.next ≤ i ∧ i < m.next ∧ ∃ pa ob, m.get i = .own [pa, slV ob bs.length 1] 96 ∧ (pa = .pointer none ∨ pa = .pointer (some ⟨i, 0, none⟩)) ∧
  SlO m 5 1 ob (bs.map byteV) bs.length ∧ ∀ b, ob = some b → base.next ≤ b ∧ b ≠ i
theorem Bld.g {base m : Mem} {i : Nat} {bs : List UInt8} (h : Bld base m i bs) : BldG base m i bs :=
  let ⟨a, b, c, pa, ob, d, e, f, _, g⟩ := h; ⟨a, b, c, pa, ob, d, e, f, g⟩

theorem c_WriteStringG {w0 : World} {base m : Mem} {i : Nat} {bs : List UInt8} {s : ByteArray} {Q : Value → Mem → Prop} (h : BldG base m i bs) (hl : bs.length + s.size ≤ 140737488355328) (hq : ∀ m', BldG base m' i (bs ++ s.data.toList) → Q (.tuple ⟨[.int .i64 s.size, .nilIface]⟩) m') :
    AbC Tryz.prog w0 38 [.pointer (some ⟨i, 0, none⟩), .string s] m Q := by
  refine AbC_fn ok38 (by simp) ?_
  obtain ⟨h1, h2, h3, pa, ob, h4, h5, h6, h7⟩ := h
  simp -implicitDefEqProofs (disch := first | assumption | (simp only [wnA]; done) | (simp only [wnA]; omega) | omega | fail) [rc38, ro38, wkA, retV, stabOk, dC, ev, fillD, pickCells, putAt, bnd, slD, List.getElem?_cons_zero, List.getElem?_cons_succ, dR_sl, Mem.cell, Mem.row, wmA]
  refine c_copyCheck h4 h5 fun m1 n1 g1 o1 => ?_
  have hs1 : SlO m1 5 1 ob (bs.map byteV) bs.length := h6.keep (Nat.le_of_eq n1.symm) fun k hk => o1 _ (h7 k hk).2
  have hold : Old base m1 := ⟨by have := h1.1; omega, fun k hk => by rw [o1 _ (by omega), h1.2 k hk]⟩
  have hsz : s.data.toList.length = s.size := by simp
  simp -implicitDefEqProofs (disch := first | assumption | (simp only [wnA]; done) | (simp only [wnA]; omega) | omega | fail) [wkA, retV, stabOk, dC, ev, fillD, pickCells, putAt, bnd, slD, List.getElem?_cons_zero, List.getElem?_cons_succ, dR_sl, Mem.cell, Mem.row, wmA, g1]
  have hoi : ob ≠ some i := fun e => (h7 i e).2 rfl
  by_cases h00 : s.size = 0
  · have he : s.data.toList = [] := List.length_eq_zero_iff.1 (by omega)
    have hx : ∀ (ts : Fr) (R : Value → Mem → Prop), ts 12 = slV ob bs.length 1 → ts 13 = .string s → R (slV ob bs.length 1) m1 → SK Tryz.prog w0 (.e (.app 5 1 1 (.tmp 12) (.tmp 13))) ts m1 R := by
      intro ts R e1 e2 hR
      simp only [SK, dE, ev, e1, e2, elemsV, if_true, lenV_str, h00]
      cases ob with
      | none =>
        have := hs1.2
        simp only [slV] at hR ⊢
        exact hR
      | some b => exact hR
    refine hx _ _ (by simp) (by simp) ?_
    simp -implicitDefEqProofs (disch := first | assumption | (simp only [wnA]; done) | (simp only [wnA]; omega) | omega | fail) [wkA, retV, stabOk, dC, ev, fillD, pickCells, putAt, bnd, slD, List.getElem?_cons_zero, List.getElem?_cons_succ, dR_sl, Mem.cell, Mem.row, wmA, g1]
    refine SK_st (i := i) (o := 1) (by simp [wkA, retV, stabOk, dC, ev, fillD, pickCells, putAt, bnd, slD, List.getElem?_cons_zero, List.getElem?_cons_succ, dR_sl]) (e := 96) (cs := [.pointer (some ⟨i, 0, none⟩), slV ob bs.length 1]) g1 (by simp) (by simp [wkA, retV, stabOk, dC, ev, fillD, pickCells, putAt, bnd, slD, List.getElem?_cons_zero, List.getElem?_cons_succ, dR_sl]) (by simp [wkA, retV, stabOk, dC, ev, fillD, pickCells, putAt, bnd, slD, List.getElem?_cons_zero, List.getElem?_cons_succ, dR_sl]) ?_
    simp -implicitDefEqProofs (disch := first | assumption | (simp only [wnA]; done) | (simp only [wnA]; omega) | omega | fail) [wkA, retV, stabOk, dC, ev, fillD, pickCells, putAt, bnd, slD, List.getElem?_cons_zero, List.getElem?_cons_succ, dR_sl, Mem.cell, Mem.row, wmA]
    refine hq _ ?_
    rw [he, List.append_nil]
    exact ⟨hold.set h2 _, h2, by simp; omega, _, ob, by simp, .inr rfl, hs1.set hoi _, h7⟩
  · refine SK_ap hs1 (by simp [wkA, retV, stabOk, dC, ev, fillD, pickCells, putAt, bnd, slD, List.getElem?_cons_zero, List.getElem?_cons_succ, dR_sl]) (ys := s.data.toList.map byteV) (by simp -implicitDefEqProofs (disch := first | assumption | (simp only [wnA]; done) | (simp only [wnA]; omega) | omega | fail) [wkA, retV, stabOk, dC, ev, fillD, pickCells, putAt, bnd, slD, List.getElem?_cons_zero, List.getElem?_cons_succ, dR_sl, elemsV, Mem.cell, Mem.row, wmA]) (k := s.size) (by simp [wkA, retV, stabOk, dC, ev, fillD, pickCells, putAt, bnd, slD, List.getElem?_cons_zero, List.getElem?_cons_succ, dR_sl]) (by omega) (byteV_oneC _) (by omega) (by simp only [maxLen]; omega) (by simp) ?_
    simp -implicitDefEqProofs (disch := first | assumption | (simp only [wnA]; done) | (simp only [wnA]; omega) | omega | fail) [wkA, retV, stabOk, dC, ev, fillD, pickCells, putAt, bnd, slD, List.getElem?_cons_zero, List.getElem?_cons_succ, dR_sl, Mem.cell, Mem.row, wmA, g1]
    refine SK_st (i := i) (o := 1) (by simp [wkA, retV, stabOk, dC, ev, fillD, pickCells, putAt, bnd, slD, List.getElem?_cons_zero, List.getElem?_cons_succ, dR_sl]) (e := 96) (cs := [.pointer (some ⟨i, 0, none⟩), slV ob bs.length 1]) ?_ (by simp) (by simp [wkA, retV, stabOk, dC, ev, fillD, pickCells, putAt, bnd, slD, List.getElem?_cons_zero, List.getElem?_cons_succ, dR_sl]) (by simp [wkA, retV, stabOk, dC, ev, fillD, pickCells, putAt, bnd, slD, List.getElem?_cons_zero, List.getElem?_cons_succ, dR_sl]) ?_
    · rw [Mem.push_old _ _ (by simp [Mem.kill_nxt]; omega), Mem.kill_other _ hoi]
      exact g1
    simp -implicitDefEqProofs (disch := first | assumption | (simp only [wnA]; done) | (simp only [wnA]; omega) | omega | fail) [wkA, retV, stabOk, dC, ev, fillD, pickCells, putAt, bnd, slD, List.getElem?_cons_zero, List.getElem?_cons_succ, dR_sl, Mem.cell, Mem.row, wmA]
    refine hq _ ?_
    refine ⟨((hold.kill fun b hb => (h7 b hb).1).push _).set h2 _, h2, by simp [Mem.kill_nxt]; omega, _, some m1.next, by simp, .inr rfl, ⟨by simp, ?_⟩, fun b hb => by cases hb; exact ⟨by rw [n1]; exact h1.1, by omega⟩⟩
    refine ⟨?_, by simp [Mem.kill_nxt]⟩
    rw [Mem.set_other _ _ (by omega)]
    simp [Mem.push_get, Mem.kill_nxt]

theorem c_BStringG {w0 : World} {base m : Mem} {i : Nat} {bs : List UInt8} {Q : Value → Mem → Prop} (h : BldG base m i bs) (hne : bs ≠ []) (hl : bs.length ≤ 140737488355328) (hq : ∀ m', Old base m' → Q (.string ⟨⟨bs⟩⟩) m') :
    AbC Tryz.prog w0 40 [.pointer (some ⟨i, 0, none⟩)] m Q := by
  obtain ⟨h1, h2, h3, pa, ob, h4, h5, h6, h7⟩ := h
  exact c_BString ⟨h1, h2, h3, pa, ob, h4, h5, h6, fun e => absurd e hne, h7⟩ hl hq

theorem c_Grow {w0 : World} {base m : Mem} {i n : Nat} {Q : Value → Mem → Prop} (h : Bld base m i []) (hn : n ≤ 140737488355328) (hq : ∀ m', BldG base m' i [] → Q (.tuple ⟨[]⟩) m') :
    AbC Tryz.prog w0 82 [.pointer (some ⟨i, 0, none⟩), .int .i64 (n : Int)] m Q := by
  refine AbC_fn ok82 (by simp) ?_
  obtain ⟨h1, h2, h3, pa, ob, h4, h5, h6, hz, h7⟩ := h
  have hob := hz rfl
  subst hob
  simp only [List.length_nil, slV] at h4
  have f1 : (0 : Int) ≤ (n : Int) := by omega
  simp -implicitDefEqProofs (disch := first | assumption | (simp only [wnA]; done) | (simp only [wnA]; omega) | omega | fail) [rc82, ro82, wkA, retV, stabOk, dC, ev, fillD, pickCells, putAt, bnd, slD, List.getElem?_cons_zero, List.getElem?_cons_succ, dR_sl, Mem.cell, Mem.row, wmA]
  refine c_copyCheck h4 h5 fun m1 n1 g1 o1 => ?_
  have hold : Old base m1 := ⟨by have := h1.1; omega, fun k hk => by rw [o1 _ (by omega), h1.2 k hk]⟩
  simp -implicitDefEqProofs (disch := first | assumption | (simp only [wnA]; done) | (simp only [wnA]; omega) | omega | fail) [wkA, retV, stabOk, dC, ev, fillD, pickCells, putAt, bnd, slD, List.getElem?_cons_zero, List.getElem?_cons_succ, dR_sl, Mem.cell, Mem.row, wmA, g1, ltF f1, rc82_0]
  by_cases h0 : n = 0
  · subst h0
    simp -implicitDefEqProofs (disch := first | assumption | (simp only [wnA]; done) | (simp only [wnA]; omega) | omega | fail) [wkA, retV, stabOk, dC, ev, fillD, pickCells, putAt, bnd, slD, List.getElem?_cons_zero, List.getElem?_cons_succ, dR_sl, Mem.cell, Mem.row, wmA, g1]
    exact hq m1 ⟨hold, h2, by omega, _, none, g1, .inr rfl, ⟨rfl, rfl⟩, fun b hb => by cases hb⟩
  · have f2 : (0 : Int) < (n : Int) := by omega
    have f3 : 0 < n := by omega
    have e0 : IntKind.i64.wrap 0 = 0 := w64 (by omega)
    have en : IntKind.i64.wrap (n : Int) = (n : Int) := w64 (by omega)
    simp -implicitDefEqProofs (disch := first | assumption | (simp only [wnA]; done) | (simp only [wnA]; omega) | omega | fail) [wkA, retV, stabOk, dC, ev, fillD, pickCells, putAt, bnd, slD, List.getElem?_cons_zero, List.getElem?_cons_succ, dR_sl, Mem.cell, Mem.row, wmA, g1, e0, ltT f2, f3]
    refine AbC_fn ok93 (by simp) ?_
    simp -implicitDefEqProofs (disch := first | assumption | (simp only [wnA]; done) | (simp only [wnA]; omega) | omega | fail) [rc93, ro93, wkA, retV, stabOk, dC, ev, fillD, pickCells, putAt, bnd, slD, List.getElem?_cons_zero, List.getElem?_cons_succ, dR_sl, Mem.cell, Mem.row, wmA, g1, e0, en]
    refine x_mnz xis105 hn ?_
    have hin : i ≠ m1.next := by omega
    have hsl0 : slW 1 (.slice (some ⟨m1.next, 0, none⟩) n 1) none (some (.int .i64 0)) = some (.slice (some ⟨m1.next, 0, none⟩) 0 1) := by simp [slW, dR, ev, bnd, slD]
    simp -implicitDefEqProofs (disch := first | assumption | (simp only [wnA]; done) | (simp only [wnA]; omega) | omega | fail) [wkA, retV, stabOk, dC, ev, fillD, pickCells, putAt, bnd, slD, List.getElem?_cons_zero, List.getElem?_cons_succ, dR_sl, Mem.cell, Mem.row, wmA, g1, e0, en, hsl0]
    simp only [SK, dE, ev, upd_at]
    simp -implicitDefEqProofs (disch := first | assumption | (simp only [wnA]; done) | (simp only [wnA]; omega) | omega | fail) [wkA, retV, stabOk, dC, ev, fillD, pickCells, putAt, bnd, slD, List.getElem?_cons_zero, List.getElem?_cons_succ, dR_sl, Mem.cell, Mem.row, wmA, elemsV, g1]
    refine SK_st (i := i) (o := 1) (by simp [wkA, retV, stabOk, dC, ev, fillD, pickCells, putAt, bnd, slD, List.getElem?_cons_zero, List.getElem?_cons_succ, dR_sl]) (e := 96) (cs := [.pointer (some ⟨i, 0, none⟩), .slice none 0 0]) ?_ (by simp) (by simp [wkA, retV, stabOk, dC, ev, fillD, pickCells, putAt, bnd, slD, List.getElem?_cons_zero, List.getElem?_cons_succ, dR_sl]) (by simp [wkA, retV, stabOk, dC, ev, fillD, pickCells, putAt, bnd, slD, List.getElem?_cons_zero, List.getElem?_cons_succ, dR_sl, oneC]) ?_
    · rw [Mem.set_other _ _ hin, Mem.push_old _ _ (by omega)]; exact g1
    simp -implicitDefEqProofs (disch := first | assumption | (simp only [wnA]; done) | (simp only [wnA]; omega) | omega | fail) [wkA, retV, stabOk, dC, ev, fillD, pickCells, putAt, bnd, slD, List.getElem?_cons_zero, List.getElem?_cons_succ, dR_sl, Mem.cell, Mem.row, wmA]
    refine hq _ ?_
    refine ⟨((hold.push _).set (by rw [n1]; exact h1.1) _).set h2 _, h2, by simp; omega, _, some m1.next, by simp [slV], .inr rfl, ⟨rfl, ?_, by simp⟩, fun b hb => by cases hb; exact ⟨by rw [n1]; exact h1.1, by omega⟩⟩
    rw [Mem.set_other _ _ (by omega)]
    simp

/-- Texts, one behind the other, with a text between. -/
def joinL (sep : List UInt8) : List ByteArray → List UInt8
  | [] => []
  | x :: r => x.data.toList ++ r.flatMap fun y => sep ++ y.data.toList
/-- How many bytes texts have. -/
def totL (xs : List ByteArray) : Nat := (xs.map ByteArray.size).sum
theorem totL_take (xs : List ByteArray) (j : Nat) : totL (xs.take j) ≤ totL xs := by
  induction xs generalizing j with
  | nil => simp [totL]
  | cons x xs ih =>
    cases j with
    | zero => simp [totL]
    | succ j => have := ih j; simp only [totL, List.take_succ_cons, List.map_cons, List.sum_cons] at this ⊢; omega
theorem totL_succ {xs : List ByteArray} {j : Nat} (h : j < xs.length) : totL (xs.take (j + 1)) = totL (xs.take j) + xs[j].size := by
  unfold totL
  rw [List.take_succ_eq_append_getElem h, List.map_append, List.sum_append]; simp
theorem flat_sep_len (sep : List UInt8) (xs : List ByteArray) : (xs.flatMap fun y => sep ++ y.data.toList).length = sep.length * xs.length + totL xs := by
  induction xs with
  | nil => simp [totL]
  | cons x xs ih => simp only [List.flatMap_cons, List.length_append, ih, totL, List.map_cons, List.sum_cons, List.length_cons, Nat.mul_add, ByteArray.size, Array.length_toList]; omega

theorem c_Join {w0 : World} {m : Mem} {v : Value} {xs : List ByteArray} {sep : ByteArray} {Q : Value → Mem → Prop} (hv : SlR m 1 v (xs.map .string) xs.length) (hvb : ∀ b, blk v = some b → b < m.next) (h2 : 2 ≤ xs.length) (hs : 0 < sep.size) (hl : (sep.size + 1) * xs.length + totL xs ≤ 140737488355328)
    (hq : ∀ m', Old m m' → Q (.string ⟨⟨joinL sep.data.toList xs⟩⟩) m') : AbC Tryz.prog w0 60 [v, .string sep] m Q := by
  refine AbC_fn ok60 (by simp) ?_
  have k0 : (xs.length : Int) ≠ 0 := by omega
  have k1 : (xs.length : Int) ≠ 1 := by omega
  have hsx : (sep.size + 1) * xs.length = sep.size * xs.length + xs.length := by rw [Nat.add_mul, Nat.one_mul]
  have hmul : sep.size * (xs.length - 1) + sep.size = sep.size * xs.length := by
    obtain ⟨n, hn⟩ : ∃ n, xs.length = n + 1 := ⟨xs.length - 1, by omega⟩
    rw [hn, Nat.add_sub_cancel, Nat.mul_add, Nat.mul_one]
  have hsl : sep.size ≤ sep.size * xs.length := Nat.le_mul_of_pos_right _ (by omega)
  have e1 : IntKind.i64.wrap ((xs.length : Int) - 1) = ((xs.length - 1 : Nat) : Int) := by rw [w64 (by omega)]; omega
  have q1 : dBin .quo (.int .i64 9223372036854775807) (.int .i64 ((xs.length - 1 : Nat) : Int)) = some (.int .i64 ((9223372036854775807 / (xs.length - 1) : Nat) : Int)) := by
    rw [dBin_quo (by omega)]
    have : (9223372036854775807 : Int).tdiv ((xs.length - 1 : Nat) : Int) = ((9223372036854775807 / (xs.length - 1) : Nat) : Int) := by
      rw [Int.tdiv_eq_ediv_of_nonneg (by omega)]; rfl
    have h9 := Nat.div_le_self 9223372036854775807 (xs.length - 1)
    rw [this]
    generalize 9223372036854775807 / (xs.length - 1) = D at *
    rw [w64 (by omega)]
  have q2 : (sep.size : Int) < ((9223372036854775807 / (xs.length - 1) : Nat) : Int) := by
    have : sep.size + 1 ≤ 9223372036854775807 / (xs.length - 1) := by
      rw [Nat.le_div_iff_mul_le (by omega), Nat.add_mul, Nat.one_mul]; omega
    omega
  have q3 : IntKind.i64.wrap ((sep.size : Int) * ((xs.length - 1 : Nat) : Int)) = ((sep.size * (xs.length - 1) : Nat) : Int) := by
    have : (sep.size : Int) * ((xs.length - 1 : Nat) : Int) = ((sep.size * (xs.length - 1) : Nat) : Int) := by simp
    rw [this]; exact w64 (by omega)
  have q4 : IntKind.i64.wrap ((sep.size * (xs.length - 1) : Nat) : Int) = ((sep.size * (xs.length - 1) : Nat) : Int) := w64 (by omega)
  have hs' : (0 : Int) < (sep.size : Int) := by omega
  generalize hP : sep.size * (xs.length - 1) = P at *
  generalize hD : 9223372036854775807 / (xs.length - 1) = D at *
  generalize hN1 : xs.length - 1 = N1 at *
  have q5 : ¬ D ≤ sep.size := by omega
  have q6 : (D ≤ sep.size) = False := eq_false q5
  simp -implicitDefEqProofs (disch := first | assumption | (simp only [wnA]; done) | (simp only [wnA]; omega) | omega | fail) [rc60, ro60, wkA, retV, stabOk, dC, ev, fillD, pickCells, putAt, bnd, slD, List.getElem?_cons_zero, List.getElem?_cons_succ, dR_sl, Mem.cell, Mem.row, wmA, hv.slen, beqF k0, beqF k1, rc60_7, gtT hs', hs, e1, q1, q6, q3, q4, decide_false, rc60_6]
  have hPt : P + totL xs ≤ 140737488355328 := by omega
  refine LoopW_of (fun k ts m' => ∃ j, j + k = xs.length ∧ m' = m ∧ ts 0 = v ∧ ts 1 = .string sep ∧ ts 5 = .int .i64 ((P + totL (xs.take j) : Nat) : Int) ∧ ts 39 = v ∧ ts 40 = .int .i64 (xs.length : Nat) ∧ ts 41 = .int .i64 (j : Nat)) xs.length ?_ ?_
  · exact ⟨0, by omega, rfl, by simp [frA_at], by simp [frA_at], by simp [totL], by simp [frA_at], by simp, by simp⟩
  · rintro k ts m1 K ⟨j, hj, rfl, t0, t1, t5, t39, t40, t41⟩ hK
    simp -implicitDefEqProofs (disch := first | assumption | (simp only [wnA]; done) | (simp only [wnA]; omega) | omega | fail) [rc60_1, wkA, retV, stabOk, dC, ev, fillD, pickCells, putAt, bnd, slD, List.getElem?_cons_zero, List.getElem?_cons_succ, dR_sl, Mem.cell, Mem.row, wmA, t40, t41]
    by_cases hjl : j < xs.length
    · obtain ⟨bi, bo, L, hvv, hL, hLl, -, hLc⟩ := hv.at hjl
      have hc := hLc 0 (by omega)
      simp only [Nat.mul_one, Nat.add_zero, List.getElem?_map, List.getElem?_eq_getElem hjl, Option.map_some] at hc
      obtain ⟨x, hx⟩ : ∃ x, xs[j] = x := ⟨_, rfl⟩
      have hts := totL_succ hjl
      have htk := totL_take xs (j + 1)
      rw [hx] at hc hts
      rw [hvv] at t39
      obtain ⟨hlt', hc'⟩ := List.getElem?_eq_some_iff.1 hc
      have hjw : IntKind.i64.wrap ((j : Int) + 1) = ((j + 1 : Nat) : Int) := by rw [w64 (by omega)]; omega
      have hsub : IntKind.i64.wrap (9223372036854775807 - ((P + totL (xs.take j) : Nat) : Int)) = 9223372036854775807 - ((P + totL (xs.take j) : Nat) : Int) := w64 (by omega)
      have hgt : (x.size : Int) ≤ 9223372036854775807 - ((P + totL (xs.take j) : Nat) : Int) := by omega
      have hadd : IntKind.i64.wrap (((P + totL (xs.take j) : Nat) : Int) + (x.size : Int)) = ((P + totL (xs.take (j + 1)) : Nat) : Int) := by rw [w64 (by omega)]; omega
      generalize hT : P + totL (xs.take j) = T at *
      simp -implicitDefEqProofs (disch := first | assumption | (simp only [wnA]; done) | (simp only [wnA]; omega) | omega | fail) [hjl, rc60_0, wkA, retV, stabOk, dC, ev, fillD, pickCells, putAt, bnd, slD, List.getElem?_cons_zero, List.getElem?_cons_succ, dR_sl, Mem.cell, Mem.row, wmA, t5, t39, t40, t41, sidx_at, hL, hc, hc', hsub, gtF hgt, hadd, hjw]
      exact hK (k - 1) _ _ (by omega) ⟨j + 1, by omega, rfl, by simp [t0], by simp [t1], by simp, by simp [t39, hvv], by simp [t40], by simp⟩
    · have hjj : j = xs.length := by omega
      subst hjj
      rw [List.take_length] at t5
      simp -implicitDefEqProofs (disch := first | assumption | (simp only [wnA]; done) | (simp only [wnA]; omega) | omega | fail) [hjl, rc60_5, wkA, retV, stabOk, dC, ev, fillD, pickCells, putAt, bnd, slD, List.getElem?_cons_zero, List.getElem?_cons_succ, dR_sl, Mem.cell, Mem.row, wmA, t5]
      refine c_Grow (Bld.new (Old.refl m1)) hPt fun m2 hb => ?_
      have hv2 : SlR m2 1 v (xs.map .string) xs.length := hv.keep fun b h => hb.1.2 b (hvb b h)
      obtain ⟨bi, bo, L, hvv, hL, hLl, -, hLc⟩ := hv2.at (j := 0) (by omega)
      have hc := hLc 0 (by omega)
      have h0l : 0 < xs.length := by omega
      simp only [Nat.mul_one, Nat.add_zero, List.getElem?_map, List.getElem?_eq_getElem h0l, Option.map_some] at hc
      obtain ⟨x, hx⟩ : ∃ x, xs[0] = x := ⟨_, rfl⟩
      obtain ⟨ys, hys⟩ : ∃ ys, xs = x :: ys := by
        cases xs with
        | nil => simp at h0l
        | cons a r => exact ⟨r, by simp at hx; rw [hx]⟩
      rw [hx] at hc
      obtain ⟨hlt', hc'⟩ := List.getElem?_eq_some_iff.1 hc
      have hs0 : sidx 1 v (.int .i64 0) = some (.pointer (some ⟨bi, bo, none⟩)) := by
        have := sidx_at (b := bi) (o := bo) (n := xs.length) (c := 1) (j := 0) (sz := 1) (k := .i64) h0l
        simpa [hvv] using this
      have hlen : xs.length = ys.length + 1 := by rw [hys]; rfl
      have htot : totL xs = x.size + totL ys := by rw [hys]; simp [totL]
      have hJ : joinL sep.data.toList xs = x.data.toList ++ ys.flatMap fun y => sep.data.toList ++ y.data.toList := by rw [hys]; rfl
      have hsz : x.data.toList.length = x.size := by simp
      simp -implicitDefEqProofs (disch := first | assumption | (simp only [wnA]; done) | (simp only [wnA]; omega) | omega | fail) [wkA, retV, stabOk, dC, ev, fillD, pickCells, putAt, bnd, slD, List.getElem?_cons_zero, List.getElem?_cons_succ, dR_sl, Mem.cell, Mem.row, wmA, t0, hs0, hL, hc, hc']
      refine c_WriteStringG hb (by simp; omega) fun m3 hb3 => ?_
      have hv3 : SlR m3 1 v (xs.map .string) xs.length := hv.keep fun b h => hb3.1.2 b (hvb b h)
      obtain ⟨v', sl1, sv', sb'⟩ := hv3.behind (k := 1) (by omega)
      have sl2 : slW 1 v (some (.int .i64 1)) none = some v' := by simpa using sl1
      have sv2 : SlR m3 1 v' (ys.map .string) ys.length := by
        rw [hys] at sv'; simpa using sv'
      simp -implicitDefEqProofs (disch := first | assumption | (simp only [wnA]; done) | (simp only [wnA]; omega) | omega | fail) [wkA, retV, stabOk, dC, ev, fillD, pickCells, putAt, bnd, slD, List.getElem?_cons_zero, List.getElem?_cons_succ, dR_sl, Mem.cell, Mem.row, wmA, t0, sl2, sv2.slen]
      refine LoopW_of (fun k ts m' => ∃ j, j + k = ys.length ∧ ts 1 = .string sep ∧ ts 8 = .pointer (some ⟨m1.next, 0, none⟩) ∧ ts 63 = v' ∧ ts 64 = .int .i64 (ys.length : Nat) ∧ ts 65 = .int .i64 (j : Nat) ∧
        BldG m1 m' m1.next (x.data.toList ++ (ys.take j).flatMap fun y => sep.data.toList ++ y.data.toList)) ys.length ?_ ?_
      · exact ⟨0, by omega, by simp [t1], by simp, by simp, by simp, by simp, by simpa using hb3⟩
      · rintro k' ts' m4 K' ⟨j, hj', s1, s8, s63, s64, s65, hb4⟩ hK'
        simp -implicitDefEqProofs (disch := first | assumption | (simp only [wnA]; done) | (simp only [wnA]; omega) | omega | fail) [rc60_3, wkA, retV, stabOk, dC, ev, fillD, pickCells, putAt, bnd, slD, List.getElem?_cons_zero, List.getElem?_cons_succ, dR_sl, Mem.cell, Mem.row, wmA, s64, s65]
        have hfl := flat_sep_len sep.data.toList (ys.take j)
        have htk := totL_take ys j
        have htl : (ys.take j).length = min j ys.length := List.length_take
        by_cases hjl2 : j < ys.length
        · have hv4 : SlR m4 1 v' (ys.map .string) ys.length := sv2.keep fun b h => by rw [hb4.1.2 b (hvb b (sb' b h)), hb3.1.2 b (hvb b (sb' b h))]
          obtain ⟨ci, co, Lc, hvv2, hL2, hLl2, -, hLc2⟩ := hv4.at hjl2
          have hd := hLc2 0 (by omega)
          simp only [Nat.mul_one, Nat.add_zero, List.getElem?_map, List.getElem?_eq_getElem hjl2, Option.map_some] at hd
          obtain ⟨y, hy⟩ : ∃ y, ys[j] = y := ⟨_, rfl⟩
          have hts := totL_succ hjl2
          have htk1 := totL_take ys (j + 1)
          rw [hy] at hd hts
          rw [hvv2] at s63
          obtain ⟨hlt2, hd'⟩ := List.getElem?_eq_some_iff.1 hd
          have hjw : IntKind.i64.wrap ((j : Int) + 1) = ((j + 1 : Nat) : Int) := by rw [w64 (by omega)]; omega
          have hnx : ((ys.take (j + 1)).flatMap fun y => sep.data.toList ++ y.data.toList) = ((ys.take j).flatMap fun y => sep.data.toList ++ y.data.toList) ++ (sep.data.toList ++ y.data.toList) := by
            rw [List.take_succ_eq_append_getElem hjl2, List.flatMap_append, hy]; simp
          have hm1 : sep.data.toList.length * (ys.take j).length ≤ sep.size * ys.length := by
            rw [show sep.data.toList.length = sep.size from by simp]
            exact Nat.mul_le_mul_left _ (by omega)
          have hm2 : sep.size * xs.length = sep.size * ys.length + sep.size := by rw [hlen, Nat.mul_add, Nat.mul_one]
          have hss : sep.data.toList.length = sep.size := by simp
          generalize ((ys.take j).flatMap fun y => sep.data.toList ++ y.data.toList) = B at *
          simp -implicitDefEqProofs (disch := first | assumption | (simp only [wnA]; done) | (simp only [wnA]; omega) | omega | fail) [hjl2, rc60_2, wkA, retV, stabOk, dC, ev, fillD, pickCells, putAt, bnd, slD, List.getElem?_cons_zero, List.getElem?_cons_succ, dR_sl, Mem.cell, Mem.row, wmA, s1, s8, s63, s64, s65, sidx_at, hL2, hd, hd']
          refine c_WriteStringG hb4 (by rw [List.length_append]; omega) fun m5 hb5 => ?_
          simp -implicitDefEqProofs (disch := first | assumption | (simp only [wnA]; done) | (simp only [wnA]; omega) | omega | fail) [wkA, retV, stabOk, dC, ev, fillD, pickCells, putAt, bnd, slD, List.getElem?_cons_zero, List.getElem?_cons_succ, dR_sl, Mem.cell, Mem.row, wmA, s1, s8, s63, s64, s65]
          refine c_WriteStringG hb5 (by rw [List.length_append, List.length_append]; omega) fun m6 hb6 => ?_
          simp -implicitDefEqProofs (disch := first | assumption | (simp only [wnA]; done) | (simp only [wnA]; omega) | omega | fail) [wkA, retV, stabOk, dC, ev, fillD, pickCells, putAt, bnd, slD, List.getElem?_cons_zero, List.getElem?_cons_succ, dR_sl, Mem.cell, Mem.row, wmA, s1, s8, s63, s64, s65, hjw]
          exact hK' (k' - 1) _ _ (by omega) ⟨j + 1, by omega, by simp [s1], by simp [s8], by simp [s63, hvv2], by simp [s64], by simp, by rw [hnx]; simpa using hb6⟩
        · have hjj : j = ys.length := by omega
          subst hjj
          rw [List.take_length] at hb4 hfl
          simp -implicitDefEqProofs (disch := first | assumption | (simp only [wnA]; done) | (simp only [wnA]; omega) | omega | fail) [hjl2, rc60_4, wkA, retV, stabOk, dC, ev, fillD, pickCells, putAt, bnd, slD, List.getElem?_cons_zero, List.getElem?_cons_succ, dR_sl, Mem.cell, Mem.row, wmA, s8]
          refine c_BStringG hb4 ?_ ?_ fun m5 ho => ?_
          · intro e
            have := congrArg List.length e
            simp only [List.length_append, hfl, List.length_nil] at this
            have h9 : 1 ≤ sep.data.toList.length * ys.length := Nat.mul_pos (by simpa using hs) (by omega)
            omega
          · rw [List.length_append, hfl, show sep.data.toList.length = sep.size from by simp]
            have hm2 : sep.size * xs.length = sep.size * ys.length + sep.size := by rw [hlen, Nat.mul_add, Nat.mul_one]
            omega
          · simp -implicitDefEqProofs (disch := first | assumption | (simp only [wnA]; done) | (simp only [wnA]; omega) | omega | fail) [wkA, retV, stabOk, dC, ev, fillD, pickCells, putAt, bnd, slD, List.getElem?_cons_zero, List.getElem?_cons_succ, dR_sl, Mem.cell, Mem.row, wmA]
            rw [← hJ]
            exact hq m5 ho
end Go.Proofs.YtjlicambfepfiaaGreatDoor.Ab

set_option linter.unusedVariables false
set_option linter.unusedSimpArgs false
namespace Go.Proofs.YtjlicambfepfiaaGreatDoor.Ab
open Go Go.RowKit
set_option maxHeartbeats 4000000
set_option maxRecDepth 100000

def lowN (c : UInt8) : Nat := Nat.lor c.toNat 32
def dgt (c : UInt8) : Option Nat := if 48 ≤ c.toNat ∧ c.toNat ≤ 57 then some (c.toNat - 48) else if 97 ≤ lowN c ∧ lowN c ≤ 122 then some (lowN c - 97 + 10) else none
def puStep (B M n : Nat) (c : UInt8) : Option Nat := match dgt c with
  | some d => if d < B ∧ n * B + d ≤ M then some (n * B + d) else none
  | none => none
/-- What a text's number is, up to M. -/
def puL (B M : Nat) : Nat → List UInt8 → Option Nat
  | n, [] => some n
  | n, c :: l => match puStep B M n c with
    | some n' => puL B M n' l
    | none => none
theorem lowN_lt (c : UInt8) : lowN c < 256 := by
  have h1 : c.toNat < 2 ^ 8 := c.toNat_lt
  have : c.toNat ||| 32 < 2 ^ 8 := Nat.or_lt_two_pow h1 (by omega)
  exact this
theorem dOr32 (c : UInt8) : dBin .or (.int .u8 (c.toNat : Int)) (.int .u8 32) = some (.int .u8 ((lowN c : Nat) : Int)) := by
  have h1 : c.toNat < 256 := c.toNat_lt
  have h2 := binI_eq (op := .or) (k := .u8) (a := Int.ofNat c.toNat) (b := Int.ofNat 32) (v := .int .u8 (IntKind.u8.wrap (Int.ofNat (Nat.lor c.toNat 32)))) (by
    simp only [binI, bitI]
    rw [blt_true.2 (show c.toNat < kTop .u8 by simpa [kTop] using h1), blt_true.2 (show 32 < kTop .u8 by simp [kTop])]
    simp only [wrapF_eq])
  have h3 : IntKind.u8.wrap (Int.ofNat (Nat.lor c.toNat 32)) = ((lowN c : Nat) : Int) := by
    have := lowN_lt c
    rw [IntKind.wrap_u8]
    show ((lowN c : Nat) : Int) % 256 = _
    omega
  rw [h3] at h2
  exact h2
theorem c_lower {w0 : World} {m : Mem} {c : UInt8} {Q : Value → Mem → Prop} (hq : Q (.int .u8 ((lowN c : Nat) : Int)) m) : AbC Tryz.prog w0 111 [.int .u8 (c.toNat : Int)] m Q := by
  refine AbC_fn ok111 (by simp) ?_
  simp -implicitDefEqProofs (disch := first | assumption | (simp only [wnA]; done) | (simp only [wnA]; omega) | omega | fail) [rc111, ro111, wkA, retV, stabOk, dC, ev, fillD, pickCells, putAt, bnd, slD, List.getElem?_cons_zero, List.getElem?_cons_succ, dR_sl, Mem.cell, Mem.row, wmA, dOr32]
  exact hq

theorem w_PUtail {w0 : World} {Q : AQ} {ts : Fr} {m : Mem} {B M n d C : Nat} (hC : 18446744073709551616 ≤ C * B ∧ (C - 1) * B ≤ 18446744073709551615 ∧ 1 ≤ C) (hB : 2 ≤ B ∧ B ≤ 36) (hM : n ≤ M ∧ M ≤ 18446744073709551615) (hd : d < 256)
    (t1 : ts 1 = .int .i64 (B : Int)) (t10 : ts 10 = .int .u64 (C : Int)) (t11 : ts 11 = .int .u64 (M : Int)) (t13 : ts 13 = .int .u64 (n : Int)) (t16 : ts 16 = .int .u8 (d : Int))
    (he : ∀ ts' v c, ts' 6 = .int .u64 v → ts' 7 = .iface 204 (.int .i64 c) → (c = 1 ∨ c = 2) → (c = 1 → v = (M : Int)) → ¬ (d < B ∧ n * B + d ≤ M) → Q .ret ts' m)
    (hq : ∀ ts', ts' 1 = ts 1 → ts' 8 = ts 8 → ts' 10 = ts 10 → ts' 11 = ts 11 → ts' 12 = ts 12 → ts' 99 = ts 99 → ts' 100 = ts 100 → ts' 101 = ts 101 → ts' 13 = .int .u64 ((n * B + d : Nat) : Int) → d < B → n * B + d ≤ M → Q .normal ts' m) :
    AbW Tryz.prog w0 rc101_2 Q ts m := by
  have wB8 : IntKind.u8.wrap (B : Int) = (B : Int) := by rw [IntKind.wrap_u8]; omega
  have wB64 : IntKind.u64.wrap (B : Int) = (B : Int) := IntWalk.u64_in _ (by omega)
  have wd64 : IntKind.u64.wrap (d : Int) = (d : Int) := IntWalk.u64_in _ (by omega)
  simp -implicitDefEqProofs (disch := first | assumption | (simp only [wnA]; done) | (simp only [wnA]; omega) | omega | fail) [rc101_2, wkA, retV, stabOk, dC, ev, fillD, pickCells, putAt, bnd, slD, List.getElem?_cons_zero, List.getElem?_cons_succ, dR_sl, Mem.cell, Mem.row, wmA, t1, t16, wB8]
  by_cases h1 : B ≤ d
  · simp -implicitDefEqProofs (disch := first | assumption | (simp only [wnA]; done) | (simp only [wnA]; omega) | omega | fail) [wkA, retV, stabOk, dC, ev, fillD, pickCells, putAt, bnd, slD, List.getElem?_cons_zero, List.getElem?_cons_succ, dR_sl, Mem.cell, Mem.row, wmA, h1]
    exact he _ 0 2 (by simp) (by simp) (.inr rfl) (fun h => absurd h (by decide)) (by omega)
  · simp -implicitDefEqProofs (disch := first | assumption | (simp only [wnA]; done) | (simp only [wnA]; omega) | omega | fail) [wkA, retV, stabOk, dC, ev, fillD, pickCells, putAt, bnd, slD, List.getElem?_cons_zero, List.getElem?_cons_succ, dR_sl, Mem.cell, Mem.row, wmA, h1, rc101_1, t10, t13]
    by_cases h2 : C ≤ n
    · simp -implicitDefEqProofs (disch := first | assumption | (simp only [wnA]; done) | (simp only [wnA]; omega) | omega | fail) [wkA, retV, stabOk, dC, ev, fillD, pickCells, putAt, bnd, slD, List.getElem?_cons_zero, List.getElem?_cons_succ, dR_sl, Mem.cell, Mem.row, wmA, h2, t11]
      refine he _ (M : Int) 1 (by simp) (by simp) (.inl rfl) (fun _ => rfl) ?_
      intro h3
      have h5 : C * B ≤ n * B := Nat.mul_le_mul_right _ h2
      omega
    · have h4 : n ≤ C - 1 := by omega
      have h5 : n * B ≤ (C - 1) * B := Nat.mul_le_mul_right _ h4
      have h6 := hC.2.1
      have w1 : IntKind.u64.wrap ((n : Int) * (B : Int)) = ((n * B : Nat) : Int) := by
        rw [← Int.natCast_mul]; exact IntWalk.u64_in _ (by omega)
      have w1' : IntKind.u64.wrap ((n * B : Nat) : Int) = ((n * B : Nat) : Int) := IntWalk.u64_in _ (by omega)
      generalize hX : n * B = X at *
      simp -implicitDefEqProofs (disch := first | assumption | (simp only [wnA]; done) | (simp only [wnA]; omega) | omega | fail) [wkA, retV, stabOk, dC, ev, fillD, pickCells, putAt, bnd, slD, List.getElem?_cons_zero, List.getElem?_cons_succ, dR_sl, Mem.cell, Mem.row, wmA, h2, rc101_0, t1, t13, t16, wB64, w1, wd64]
      by_cases h7 : X + d ≤ 18446744073709551615
      · have w2 : IntKind.u64.wrap ((X : Int) + (d : Int)) = ((X + d : Nat) : Int) := by rw [IntWalk.u64_in _ (by omega)]; omega
        have h8 : ¬ X + d < X := by omega
        by_cases h9 : X + d ≤ M
        · have h10 : ¬ M < X + d := by omega
          have h11 : ¬ ((M : Int) < (X : Int) + (d : Int)) := by omega
          have h12 : ¬ ((X : Int) + (d : Int) < (X : Int)) := by omega
          simp -implicitDefEqProofs (disch := first | assumption | (simp only [wnA]; done) | (simp only [wnA]; omega) | omega | fail) [wkA, retV, stabOk, dC, ev, fillD, pickCells, putAt, bnd, slD, List.getElem?_cons_zero, List.getElem?_cons_succ, dR_sl, Mem.cell, Mem.row, wmA, w2, h8, h10, h11, h12, t11]
          exact hq _ (by simp) (by simp) (by simp) (by simp) (by simp) (by simp) (by simp) (by simp) (by simp) (by omega) h9
        · have h10 : M < X + d := by omega
          have h11 : (M : Int) < (X : Int) + (d : Int) := by omega
          have h12 : ¬ ((X : Int) + (d : Int) < (X : Int)) := by omega
          simp -implicitDefEqProofs (disch := first | assumption | (simp only [wnA]; done) | (simp only [wnA]; omega) | omega | fail) [wkA, retV, stabOk, dC, ev, fillD, pickCells, putAt, bnd, slD, List.getElem?_cons_zero, List.getElem?_cons_succ, dR_sl, Mem.cell, Mem.row, wmA, w2, h8, h10, h11, h12, t11]
          exact he _ (M : Int) 1 (by simp) (by simp) (.inl rfl) (fun _ => rfl) (by omega)
      · obtain ⟨Y, hY⟩ := Nat.exists_eq_add_of_le (show 18446744073709551616 ≤ X + d by omega)
        have h12 : (Y : Int) < (X : Int) := by omega
        have h8 : Y < X := by omega
        have w2 : IntKind.u64.wrap ((X : Int) + (d : Int)) = (Y : Int) := by
          have e : (X : Int) + (d : Int) = 18446744073709551616 + (Y : Int) := by omega
          rw [e]
          simp only [IntKind.wrap, IntKind.bits, IntKind.signed]
          simp
          omega
        simp -implicitDefEqProofs (disch := first | assumption | (simp only [wnA]; done) | (simp only [wnA]; omega) | omega | fail) [wkA, retV, stabOk, dC, ev, fillD, pickCells, putAt, bnd, slD, List.getElem?_cons_zero, List.getElem?_cons_succ, dR_sl, Mem.cell, Mem.row, wmA, w2, h8, h12, t11]
        exact he _ (M : Int) 1 (by simp) (by simp) (.inl rfl) (fun _ => rfl) (by omega)

theorem w_PUloop {w0 : World} {Q : AQ} {ts : Fr} {m : Mem} {B M bits C : Nat} {s : ByteArray} (hC : 18446744073709551616 ≤ C * B ∧ (C - 1) * B ≤ 18446744073709551615 ∧ 1 ≤ C) (hB : B = 8 ∨ B = 10 ∨ B = 16) (hM : (bits = 32 ∧ M = 4294967295) ∨ (bits = 64 ∧ M = 18446744073709551615)) (hs : s.size ≤ 140737488355328)
    (t0 : ts 0 = .string s) (t1 : ts 1 = .int .i64 (B : Int)) (t2 : ts 2 = .int .i64 (bits : Int)) (t8 : ts 8 = .bool false) (t10 : ts 10 = .int .u64 (C : Int))
    (he : ∀ ts' m' v c, Old m m' → ts' 6 = .int .u64 v → ts' 7 = .iface 204 (.int .i64 c) → (c = 1 ∨ c = 2) → (c = 1 → v = (M : Int)) → puL B M 0 s.data.toList = none → Q .ret ts' m')
    (hq : ∀ ts' m' v, Old m m' → ts' 6 = .int .u64 ((v : Nat) : Int) → ts' 7 = .nilIface → puL B M 0 s.data.toList = some v → Q .ret ts' m') :
    AbW Tryz.prog w0 rc101_7 Q ts m := by
  have hBr : 2 ≤ B ∧ B ≤ 36 := by omega
  have hMr : M ≤ 18446744073709551615 := by omega
  have sh : dBin .shl (.int .u64 1) (.int .u64 (bits : Int)) = some (.int .u64 (IntKind.u64.wrap ((M : Int) + 1))) := by
    rcases hM with ⟨rfl, rfl⟩ | ⟨rfl, rfl⟩ <;> rfl
  have wbits : IntKind.u64.wrap (bits : Int) = (bits : Int) := IntWalk.u64_in _ (by omega)
  have wM : IntKind.u64.wrap (IntKind.u64.wrap ((M : Int) + 1) - 1) = (M : Int) := by
    rcases hM with ⟨rfl, rfl⟩ | ⟨rfl, rfl⟩ <;> rfl
  simp -implicitDefEqProofs (disch := first | assumption | (simp only [wnA]; done) | (simp only [wnA]; omega) | omega | fail) [rc101_7, wkA, retV, stabOk, dC, ev, fillD, pickCells, putAt, bnd, slD, List.getElem?_cons_zero, List.getElem?_cons_succ, dR_sl, Mem.cell, Mem.row, wmA, t0, t2, sh, wbits, wM]
  rw [SK_s2b (s := s) (by simp [wkA, retV, stabOk, dC, ev, fillD, pickCells, putAt, bnd, slD, List.getElem?_cons_zero, List.getElem?_cons_succ, dR_sl]) hs]
  simp -implicitDefEqProofs (disch := first | assumption | (simp only [wnA]; done) | (simp only [wnA]; omega) | omega | fail) [wkA, retV, stabOk, dC, ev, fillD, pickCells, putAt, bnd, slD, List.getElem?_cons_zero, List.getElem?_cons_succ, dR_sl, Mem.cell, Mem.row, wmA]
  have o1 : Old m (m.push (.own (s.data.toList.map byteV) 5)) := (Old.refl m).push _
  have g1 : (m.push (.own (s.data.toList.map byteV) 5)).get m.next = .own (s.data.toList.map byteV) 5 := by simp
  generalize m.push (.own (s.data.toList.map byteV) 5) = m1 at *
  have hsz : s.data.toList.length = s.size := by simp
  refine LoopW_of (fun k ts' m' => ∃ j n, j + k = s.size ∧ m' = m1 ∧ ts' 1 = .int .i64 (B : Int) ∧ ts' 8 = .bool false ∧ ts' 10 = .int .u64 (C : Int) ∧ ts' 11 = .int .u64 (M : Int) ∧ ts' 12 = .bool false ∧ ts' 13 = .int .u64 ((n : Nat) : Int) ∧
    ts' 99 = .slice (some ⟨m.next, 0, none⟩) s.size 1 ∧ ts' 100 = .int .i64 (s.size : Nat) ∧ ts' 101 = .int .i64 (j : Nat) ∧ n ≤ M ∧ puL B M 0 s.data.toList = puL B M n (s.data.toList.drop j)) s.size ?_ ?_
  · exact ⟨0, 0, by omega, rfl, by simp [t1], by simp [t8], by simp [t10], by simp, by simp, by simp, by simp, by simp, by simp, by omega, by simp⟩
  · rintro k ts' m2 K ⟨j, n, hj, rfl, s1, s8, s10, s11, s12, s13, s99, s100, s101, hn, hpu⟩ hK
    simp -implicitDefEqProofs (disch := first | assumption | (simp only [wnA]; done) | (simp only [wnA]; omega) | omega | fail) [rc101_4, wkA, retV, stabOk, dC, ev, fillD, pickCells, putAt, bnd, slD, List.getElem?_cons_zero, List.getElem?_cons_succ, dR_sl, Mem.cell, Mem.row, wmA, s100, s101]
    by_cases hjl : j < s.size
    · have hjl' : j < s.data.toList.length := by omega
      obtain ⟨c, hc⟩ : ∃ c, s.data.toList[j] = c := ⟨_, rfl⟩
      have hat : (s.data.toList.map byteV)[j]? = some (byteV c) := by rw [List.getElem?_map, List.getElem?_eq_getElem hjl', hc]; rfl
      obtain ⟨hlt', hat'⟩ := List.getElem?_eq_some_iff.1 hat
      have hdr : s.data.toList.drop j = c :: s.data.toList.drop (j + 1) := by rw [List.drop_eq_getElem_cons hjl', hc]
      have hjw : IntKind.i64.wrap ((j : Int) + 1) = ((j + 1 : Nat) : Int) := by rw [w64 (by omega)]; omega
      have hcl : c.toNat < 256 := c.toNat_lt
      rw [hdr] at hpu
      have bad : puStep B M n c = none → puL B M 0 s.data.toList = none := fun h => by rw [hpu]; simp [puL, h]
      have good : ∀ n', puStep B M n c = some n' → puL B M 0 s.data.toList = puL B M n' (s.data.toList.drop (j + 1)) := fun n' h => by rw [hpu]; simp [puL, h]
      generalize s.data.toList.map byteV = row at *
      have tail : ∀ (ts2 : Fr) (d : Nat), dgt c = some d → d < 256 → ∀ {Q2 : AQ}, (∀ ts' m', Q2 .ret ts' m' = Q .ret ts' m') → (∀ ts', ts' 1 = ts2 1 → ts' 8 = ts2 8 → ts' 10 = ts2 10 → ts' 11 = ts2 11 → ts' 12 = ts2 12 → ts' 99 = ts2 99 → ts' 100 = ts2 100 → ts' 101 = ts2 101 → ts' 13 = .int .u64 ((n * B + d : Nat) : Int) → n * B + d ≤ M → puStep B M n c = some (n * B + d) → Q2 .normal ts' m2) →
          ts2 1 = .int .i64 (B : Int) → ts2 10 = .int .u64 (C : Int) → ts2 11 = .int .u64 (M : Int) → ts2 13 = .int .u64 (n : Int) → ts2 16 = .int .u8 (d : Int) → AbW Tryz.prog w0 rc101_2 Q2 ts2 m2 := by
        intro ts2 d hdg hd Q2 hr hq2 u1 u10 u11 u13 u16
        refine w_PUtail hC hBr ⟨hn, hMr⟩ hd u1 u10 u11 u13 u16 (fun ts' v c' h6 h7 hc' hv' hno => ?_) fun ts' r1 r8 r10 r11 r12 r99 r100 r101 r13 hdB hle => ?_
        · rw [hr]
          refine he ts' m2 v c' o1 h6 h7 hc' hv' (bad ?_)
          simp only [puStep, hdg]
          rw [if_neg hno]
        · exact hq2 ts' r1 r8 r10 r11 r12 r99 r100 r101 r13 hle (by simp only [puStep, hdg]; rw [if_pos ⟨hdB, hle⟩])
      have fin : ∀ (ts' : Fr) (d : Nat), ts' 1 = .int .i64 (B : Int) → ts' 8 = .bool false → ts' 10 = .int .u64 (C : Int) → ts' 11 = .int .u64 (M : Int) → ts' 12 = .bool false → ts' 99 = .slice (some ⟨m.next, 0, none⟩) s.size 1 → ts' 100 = .int .i64 (s.size : Nat) → ts' 101 = .int .i64 ((j + 1 : Nat) : Int) → ts' 13 = .int .u64 ((n * B + d : Nat) : Int) → n * B + d ≤ M → puStep B M n c = some (n * B + d) → K ts' m2 := fun ts' d r1 r8 r10 r11 r12 r99 r100 r101 r13 hle hp =>
        hK (k - 1) ts' m2 (by omega) ⟨j + 1, n * B + d, by omega, rfl, r1, r8, r10, r11, r12, r13, r99, r100, r101, hle, good _ hp⟩
      by_cases h95 : c.toNat = 95
      · have q1 : ((c.toNat : Int) == 95) = true := by simp [h95]
        have q3 : dgt c = none := by
          have hc95 : c = 95 := UInt8.toNat_inj.1 h95
          rw [hc95]; decide
        have q4 : lowN c = 127 := by
          have hc95 : c = 95 := UInt8.toNat_inj.1 h95
          rw [hc95]; decide
        have q5 : (48 : Int) ≤ (c.toNat : Int) := by omega
        have q2 : ¬ (c.toNat : Int) ≤ 57 := by omega
        simp -implicitDefEqProofs (disch := first | assumption | (simp only [wnA]; done) | (simp only [wnA]; omega) | omega | fail) [hjl, rc101_3, wkA, retV, stabOk, dC, ev, fillD, pickCells, putAt, bnd, slD, List.getElem?_cons_zero, List.getElem?_cons_succ, dR_sl, Mem.cell, Mem.row, wmA, s8, s99, s101, sidx_at, g1, hat, hat', byteV, q1, q2, q5]
        refine c_lower ?_
        simp -implicitDefEqProofs (disch := first | assumption | (simp only [wnA]; done) | (simp only [wnA]; omega) | omega | fail) [wkA, retV, stabOk, dC, ev, fillD, pickCells, putAt, bnd, slD, List.getElem?_cons_zero, List.getElem?_cons_succ, dR_sl, Mem.cell, Mem.row, wmA, q4]
        refine c_lower ?_
        simp -implicitDefEqProofs (disch := first | assumption | (simp only [wnA]; done) | (simp only [wnA]; omega) | omega | fail) [wkA, retV, stabOk, dC, ev, fillD, pickCells, putAt, bnd, slD, List.getElem?_cons_zero, List.getElem?_cons_succ, dR_sl, Mem.cell, Mem.row, wmA, q4]
        exact he _ m2 0 2 o1 (by simp) (by simp) (.inr rfl) (fun h => absurd h (by decide)) (bad (by simp [puStep, q3]))
      · have q1 : ((c.toNat : Int) == 95) = false := by simp; omega
        by_cases h48 : 48 ≤ c.toNat ∧ c.toNat ≤ 57
        · have hd : dgt c = some (c.toNat - 48) := by simp [dgt, h48]
          have i48 : (48 : Int) ≤ (c.toNat : Int) ∧ (c.toNat : Int) ≤ 57 := by omega
          have w8 : IntKind.u8.wrap ((c.toNat : Int) - 48) = ((c.toNat - 48 : Nat) : Int) := by rw [IntKind.wrap_u8]; omega
          simp -implicitDefEqProofs (disch := first | assumption | (simp only [wnA]; done) | (simp only [wnA]; omega) | omega | fail) [hjl, rc101_3, wkA, retV, stabOk, dC, ev, fillD, pickCells, putAt, bnd, slD, List.getElem?_cons_zero, List.getElem?_cons_succ, dR_sl, Mem.cell, Mem.row, wmA, s8, s99, s101, sidx_at, g1, hat, hat', byteV, q1, i48, w8]
          refine tail _ (c.toNat - 48) hd (by omega) ?_ ?_ ?_ ?_ ?_ ?_ ?_
          · intro ts3 m3; simp -implicitDefEqProofs (disch := first | assumption | (simp only [wnA]; done) | (simp only [wnA]; omega) | omega | fail) [wkA, retV, stabOk, dC, ev, fillD, pickCells, putAt, bnd, slD, List.getElem?_cons_zero, List.getElem?_cons_succ, dR_sl, Mem.cell, Mem.row, wmA]
          · intro ts3 r1 r8 r10 r11 r12 r99 r100 r101 r13 hle hp
            simp at r1 r8 r10 r11 r12 r99 r100 r101
            simp -implicitDefEqProofs (disch := first | assumption | (simp only [wnA]; done) | (simp only [wnA]; omega) | omega | fail) [wkA, retV, stabOk, dC, ev, fillD, pickCells, putAt, bnd, slD, List.getElem?_cons_zero, List.getElem?_cons_succ, dR_sl, Mem.cell, Mem.row, wmA, r101, s101, hjw]
            exact fin _ (c.toNat - 48) (by simp [r1, s1]) (by simp [r8, s8]) (by simp [r10, s10]) (by simp [r11, s11]) (by simp [r12, s12]) (by simp [r99, s99]) (by simp [r100, s100]) (by simp) (by simp [r13]) hle hp
          · simp [s1]
          · simp [s10]
          · simp [s11]
          · simp [s13]
          · simp
        · by_cases h97 : 97 ≤ lowN c ∧ lowN c ≤ 122
          · have hd : dgt c = some (lowN c - 97 + 10) := by simp only [dgt]; rw [if_neg h48, if_pos h97]
            have w8 : IntKind.u8.wrap (((lowN c : Nat) : Int) - 97) = ((lowN c - 97 : Nat) : Int) := by rw [IntKind.wrap_u8]; omega
            have w8' : IntKind.u8.wrap (((lowN c - 97 : Nat) : Int) + 10) = ((lowN c - 97 + 10 : Nat) : Int) := by rw [IntKind.wrap_u8]; omega
            have i97 : (97 : Int) ≤ ((lowN c : Nat) : Int) ∧ ((lowN c : Nat) : Int) ≤ 122 := by omega
            generalize hlo : lowN c = lo at *
            have cl : ∀ {R : Value → Mem → Prop}, R (.int .u8 ((lo : Nat) : Int)) m2 → AbC Tryz.prog w0 111 [.int .u8 (c.toNat : Int)] m2 R := fun h => c_lower (by rw [hlo]; exact h)
            generalize hE : lo - 97 = e at *
            by_cases h48a : (48 : Int) ≤ (c.toNat : Int)
            · have h57 : ¬ (c.toNat : Int) ≤ 57 := by omega
              simp -implicitDefEqProofs (disch := first | assumption | (simp only [wnA]; done) | (simp only [wnA]; omega) | omega | fail) [hjl, rc101_3, wkA, retV, stabOk, dC, ev, fillD, pickCells, putAt, bnd, slD, List.getElem?_cons_zero, List.getElem?_cons_succ, dR_sl, Mem.cell, Mem.row, wmA, s8, s99, s101, sidx_at, g1, hat, hat', byteV, q1, h48a, h57]
              refine cl ?_
              simp -implicitDefEqProofs (disch := first | assumption | (simp only [wnA]; done) | (simp only [wnA]; omega) | omega | fail) [wkA, retV, stabOk, dC, ev, fillD, pickCells, putAt, bnd, slD, List.getElem?_cons_zero, List.getElem?_cons_succ, dR_sl, Mem.cell, Mem.row, wmA, i97]
              refine cl ?_
              simp -implicitDefEqProofs (disch := first | assumption | (simp only [wnA]; done) | (simp only [wnA]; omega) | omega | fail) [wkA, retV, stabOk, dC, ev, fillD, pickCells, putAt, bnd, slD, List.getElem?_cons_zero, List.getElem?_cons_succ, dR_sl, Mem.cell, Mem.row, wmA, i97]
              refine cl ?_
              simp -implicitDefEqProofs (disch := first | assumption | (simp only [wnA]; done) | (simp only [wnA]; omega) | omega | fail) [wkA, retV, stabOk, dC, ev, fillD, pickCells, putAt, bnd, slD, List.getElem?_cons_zero, List.getElem?_cons_succ, dR_sl, Mem.cell, Mem.row, wmA, w8, w8']
              refine tail _ (e + 10) hd (by omega) ?_ ?_ ?_ ?_ ?_ ?_ ?_
              · intro ts3 m3; simp -implicitDefEqProofs (disch := first | assumption | (simp only [wnA]; done) | (simp only [wnA]; omega) | omega | fail) [wkA, retV, stabOk, dC, ev, fillD, pickCells, putAt, bnd, slD, List.getElem?_cons_zero, List.getElem?_cons_succ, dR_sl, Mem.cell, Mem.row, wmA]
              · intro ts3 r1 r8 r10 r11 r12 r99 r100 r101 r13 hle hp
                simp at r1 r8 r10 r11 r12 r99 r100 r101
                simp -implicitDefEqProofs (disch := first | assumption | (simp only [wnA]; done) | (simp only [wnA]; omega) | omega | fail) [wkA, retV, stabOk, dC, ev, fillD, pickCells, putAt, bnd, slD, List.getElem?_cons_zero, List.getElem?_cons_succ, dR_sl, Mem.cell, Mem.row, wmA, r101, s101, hjw]
                exact fin _ (e + 10) (by simp [r1, s1]) (by simp [r8, s8]) (by simp [r10, s10]) (by simp [r11, s11]) (by simp [r12, s12]) (by simp [r99, s99]) (by simp [r100, s100]) (by simp) (by simp [r13]) hle hp
              · simp [s1]
              · simp [s10]
              · simp [s11]
              · simp [s13]
              · simp
            · simp -implicitDefEqProofs (disch := first | assumption | (simp only [wnA]; done) | (simp only [wnA]; omega) | omega | fail) [hjl, rc101_3, wkA, retV, stabOk, dC, ev, fillD, pickCells, putAt, bnd, slD, List.getElem?_cons_zero, List.getElem?_cons_succ, dR_sl, Mem.cell, Mem.row, wmA, s8, s99, s101, sidx_at, g1, hat, hat', byteV, q1, h48a]
              refine cl ?_
              simp -implicitDefEqProofs (disch := first | assumption | (simp only [wnA]; done) | (simp only [wnA]; omega) | omega | fail) [wkA, retV, stabOk, dC, ev, fillD, pickCells, putAt, bnd, slD, List.getElem?_cons_zero, List.getElem?_cons_succ, dR_sl, Mem.cell, Mem.row, wmA, i97]
              refine cl ?_
              simp -implicitDefEqProofs (disch := first | assumption | (simp only [wnA]; done) | (simp only [wnA]; omega) | omega | fail) [wkA, retV, stabOk, dC, ev, fillD, pickCells, putAt, bnd, slD, List.getElem?_cons_zero, List.getElem?_cons_succ, dR_sl, Mem.cell, Mem.row, wmA, i97]
              refine cl ?_
              simp -implicitDefEqProofs (disch := first | assumption | (simp only [wnA]; done) | (simp only [wnA]; omega) | omega | fail) [wkA, retV, stabOk, dC, ev, fillD, pickCells, putAt, bnd, slD, List.getElem?_cons_zero, List.getElem?_cons_succ, dR_sl, Mem.cell, Mem.row, wmA, w8, w8']
              refine tail _ (e + 10) hd (by omega) ?_ ?_ ?_ ?_ ?_ ?_ ?_
              · intro ts3 m3; simp -implicitDefEqProofs (disch := first | assumption | (simp only [wnA]; done) | (simp only [wnA]; omega) | omega | fail) [wkA, retV, stabOk, dC, ev, fillD, pickCells, putAt, bnd, slD, List.getElem?_cons_zero, List.getElem?_cons_succ, dR_sl, Mem.cell, Mem.row, wmA]
              · intro ts3 r1 r8 r10 r11 r12 r99 r100 r101 r13 hle hp
                simp at r1 r8 r10 r11 r12 r99 r100 r101
                simp -implicitDefEqProofs (disch := first | assumption | (simp only [wnA]; done) | (simp only [wnA]; omega) | omega | fail) [wkA, retV, stabOk, dC, ev, fillD, pickCells, putAt, bnd, slD, List.getElem?_cons_zero, List.getElem?_cons_succ, dR_sl, Mem.cell, Mem.row, wmA, r101, s101, hjw]
                exact fin _ (e + 10) (by simp [r1, s1]) (by simp [r8, s8]) (by simp [r10, s10]) (by simp [r11, s11]) (by simp [r12, s12]) (by simp [r99, s99]) (by simp [r100, s100]) (by simp) (by simp [r13]) hle hp
              · simp [s1]
              · simp [s10]
              · simp [s11]
              · simp [s13]
              · simp
          · have hd : dgt c = none := by simp only [dgt]; rw [if_neg h48, if_neg h97]
            generalize hlo : lowN c = lo at *
            have cl : ∀ {R : Value → Mem → Prop}, R (.int .u8 ((lo : Nat) : Int)) m2 → AbC Tryz.prog w0 111 [.int .u8 (c.toNat : Int)] m2 R := fun h => c_lower (by rw [hlo]; exact h)
            have out : ∀ ts3 : Fr, ts3 6 = .int .u64 0 → ts3 7 = .iface 204 (.int .i64 2) → Q .ret ts3 m2 := fun ts3 e6 e7 => he ts3 m2 0 2 o1 e6 e7 (.inr rfl) (fun h => absurd h (by decide)) (bad (by simp [puStep, hd]))
            by_cases h48a : (48 : Int) ≤ (c.toNat : Int)
            · have h57 : ¬ (c.toNat : Int) ≤ 57 := by omega
              simp -implicitDefEqProofs (disch := first | assumption | (simp only [wnA]; done) | (simp only [wnA]; omega) | omega | fail) [hjl, rc101_3, wkA, retV, stabOk, dC, ev, fillD, pickCells, putAt, bnd, slD, List.getElem?_cons_zero, List.getElem?_cons_succ, dR_sl, Mem.cell, Mem.row, wmA, s8, s99, s101, sidx_at, g1, hat, hat', byteV, q1, h48a, h57]
              refine cl ?_
              by_cases hl1 : (97 : Int) ≤ (lo : Int)
              · have hl2 : ¬ (lo : Int) ≤ 122 := by omega
                simp -implicitDefEqProofs (disch := first | assumption | (simp only [wnA]; done) | (simp only [wnA]; omega) | omega | fail) [wkA, retV, stabOk, dC, ev, fillD, pickCells, putAt, bnd, slD, List.getElem?_cons_zero, List.getElem?_cons_succ, dR_sl, Mem.cell, Mem.row, wmA, hl1]
                refine cl ?_
                simp -implicitDefEqProofs (disch := first | assumption | (simp only [wnA]; done) | (simp only [wnA]; omega) | omega | fail) [wkA, retV, stabOk, dC, ev, fillD, pickCells, putAt, bnd, slD, List.getElem?_cons_zero, List.getElem?_cons_succ, dR_sl, Mem.cell, Mem.row, wmA, hl2]
                exact out _ (by simp) (by simp)
              · simp -implicitDefEqProofs (disch := first | assumption | (simp only [wnA]; done) | (simp only [wnA]; omega) | omega | fail) [wkA, retV, stabOk, dC, ev, fillD, pickCells, putAt, bnd, slD, List.getElem?_cons_zero, List.getElem?_cons_succ, dR_sl, Mem.cell, Mem.row, wmA, hl1]
                exact out _ (by simp) (by simp)
            · simp -implicitDefEqProofs (disch := first | assumption | (simp only [wnA]; done) | (simp only [wnA]; omega) | omega | fail) [hjl, rc101_3, wkA, retV, stabOk, dC, ev, fillD, pickCells, putAt, bnd, slD, List.getElem?_cons_zero, List.getElem?_cons_succ, dR_sl, Mem.cell, Mem.row, wmA, s8, s99, s101, sidx_at, g1, hat, hat', byteV, q1, h48a]
              refine cl ?_
              by_cases hl1 : (97 : Int) ≤ (lo : Int)
              · have hl2 : ¬ (lo : Int) ≤ 122 := by omega
                simp -implicitDefEqProofs (disch := first | assumption | (simp only [wnA]; done) | (simp only [wnA]; omega) | omega | fail) [wkA, retV, stabOk, dC, ev, fillD, pickCells, putAt, bnd, slD, List.getElem?_cons_zero, List.getElem?_cons_succ, dR_sl, Mem.cell, Mem.row, wmA, hl1]
                refine cl ?_
                simp -implicitDefEqProofs (disch := first | assumption | (simp only [wnA]; done) | (simp only [wnA]; omega) | omega | fail) [wkA, retV, stabOk, dC, ev, fillD, pickCells, putAt, bnd, slD, List.getElem?_cons_zero, List.getElem?_cons_succ, dR_sl, Mem.cell, Mem.row, wmA, hl2]
                exact out _ (by simp) (by simp)
              · simp -implicitDefEqProofs (disch := first | assumption | (simp only [wnA]; done) | (simp only [wnA]; omega) | omega | fail) [wkA, retV, stabOk, dC, ev, fillD, pickCells, putAt, bnd, slD, List.getElem?_cons_zero, List.getElem?_cons_succ, dR_sl, Mem.cell, Mem.row, wmA, hl1]
                exact out _ (by simp) (by simp)
    · have hjj : j = s.size := by omega
      subst hjj
      rw [List.drop_eq_nil_of_le (by omega)] at hpu
      simp -implicitDefEqProofs (disch := first | assumption | (simp only [wnA]; done) | (simp only [wnA]; omega) | omega | fail) [hjl, rc101_6, rc101_5, wkA, retV, stabOk, dC, ev, fillD, pickCells, putAt, bnd, slD, List.getElem?_cons_zero, List.getElem?_cons_succ, dR_sl, Mem.cell, Mem.row, wmA, s12, s13]
      exact hq _ _ n o1 (by simp) (by simp) hpu
end Go.Proofs.YtjlicambfepfiaaGreatDoor.Ab

set_option linter.unusedVariables false
set_option linter.unusedSimpArgs false
namespace Go.Proofs.YtjlicambfepfiaaGreatDoor.Ab
open Go Go.RowKit
set_option maxHeartbeats 4000000
set_option maxRecDepth 100000

theorem c_iPU {w0 : World} {m : Mem} {B M bits : Nat} {s : ByteArray} {Q : Value → Mem → Prop} (hB : B = 8 ∨ B = 10 ∨ B = 16) (hM : (bits = 32 ∧ M = 4294967295) ∨ (bits = 64 ∧ M = 18446744073709551615)) (hs : s.size ≤ 140737488355328)
    (he : ∀ m' v c, Old m m' → (c = 1 ∨ c = 2) → (s.size = 0 → c = 2) → (c = 1 → v = (M : Int)) → (s.size = 0 ∨ puL B M 0 s.data.toList = none) → Q (.tuple ⟨[.int .u64 v, .iface 204 (.int .i64 c)]⟩) m')
    (hq : ∀ m' v, Old m m' → s.size ≠ 0 → puL B M 0 s.data.toList = some v → Q (.tuple ⟨[.int .u64 ((v : Nat) : Int), .nilIface]⟩) m') :
    AbC Tryz.prog w0 101 [.string s, .int .i64 (B : Int), .int .i64 (bits : Int)] m Q := by
  refine AbC_fn ok101 (by simp) ?_
  simp -implicitDefEqProofs (disch := first | assumption | (simp only [wnA]; done) | (simp only [wnA]; omega) | omega | fail) [rc101, ro101, wkA, retV, stabOk, dC, ev, fillD, pickCells, putAt, bnd, slD, List.getElem?_cons_zero, List.getElem?_cons_succ, dR_sl, Mem.cell, Mem.row, wmA]
  by_cases h0 : s.size = 0
  · have hem : s.data.isEmpty = true := Array.isEmpty_iff_size_eq_zero.2 h0
    simp -implicitDefEqProofs (disch := first | assumption | (simp only [wnA]; done) | (simp only [wnA]; omega) | omega | fail) [wkA, retV, stabOk, dC, ev, fillD, pickCells, putAt, bnd, slD, List.getElem?_cons_zero, List.getElem?_cons_succ, dR_sl, Mem.cell, Mem.row, wmA, hem]
    exact he _ 0 2 (Old.refl m) (.inr rfl) (fun _ => rfl) (fun h => absurd h (by decide)) (.inl h0)
  · have hem : s.data.isEmpty = false := by
      cases hx : s.data.isEmpty with
      | false => rfl
      | true => exact (h0 (Array.isEmpty_iff_size_eq_zero.1 hx)).elim
    have f1 : (2 : Int) ≤ (B : Int) ∧ (B : Int) ≤ 36 := by omega
    have f2 : (B : Int) ≠ 0 := by omega
    have f3 : (bits : Int) ≠ 0 := by omega
    have f4 : ¬ (bits : Int) < 0 := by omega
    have f5 : ¬ (64 : Int) < (bits : Int) := by omega
    have he' : ∀ (ts' : Fr) (m' : Mem) (v c : Int), Old m m' → ts' 6 = .int .u64 v → ts' 7 = .iface 204 (.int .i64 c) → (c = 1 ∨ c = 2) → (c = 1 → v = (M : Int)) → puL B M 0 s.data.toList = none → bodyA ro101 Q .ret ts' m' := fun ts' m' v c o e6 e7 hc hvM hn => by
      simp -implicitDefEqProofs (disch := first | assumption | (simp only [wnA]; done) | (simp only [wnA]; omega) | omega | fail) [ro101, wkA, retV, stabOk, dC, ev, fillD, pickCells, putAt, bnd, slD, List.getElem?_cons_zero, List.getElem?_cons_succ, dR_sl, Mem.cell, Mem.row, wmA, e6, e7]
      exact he m' v c o hc (fun h => absurd h h0) hvM (.inr hn)
    have hq' : ∀ (ts' : Fr) (m' : Mem) (v : Nat), Old m m' → ts' 6 = .int .u64 ((v : Nat) : Int) → ts' 7 = .nilIface → puL B M 0 s.data.toList = some v → bodyA ro101 Q .ret ts' m' := fun ts' m' v o e6 e7 hv => by
      simp -implicitDefEqProofs (disch := first | assumption | (simp only [wnA]; done) | (simp only [wnA]; omega) | omega | fail) [ro101, wkA, retV, stabOk, dC, ev, fillD, pickCells, putAt, bnd, slD, List.getElem?_cons_zero, List.getElem?_cons_succ, dR_sl, Mem.cell, Mem.row, wmA, e6, e7]
      exact hq m' v o h0 hv
    simp only [ro101] at he' hq'
    rcases hB with rfl | rfl | rfl
    · have w2 : dBin .quo (.int .u64 18446744073709551615) (.int .u64 8) = some (.int .u64 2305843009213693951) := rfl
      have w3 : IntKind.u64.wrap 2305843009213693952 = 2305843009213693952 := rfl
      have w4 : IntKind.u64.wrap 8 = 8 := rfl
      simp -implicitDefEqProofs (disch := first | assumption | (simp only [wnA]; done) | (simp only [wnA]; omega) | omega | fail) [wkA, retV, stabOk, dC, ev, fillD, pickCells, putAt, bnd, slD, List.getElem?_cons_zero, List.getElem?_cons_succ, dR_sl, Mem.cell, Mem.row, wmA, hem, rc101_10, rc101_9, rc101_8, beqF f3, f4, f5, w2, w3, w4]
      exact w_PUloop (B := 8) (C := 2305843009213693952) (by omega) (.inl rfl) hM hs (by simp [frA_at]) (by simp [frA_at]) (by simp [frA_at]) (by simp) (by simp) he' hq'
    · simp -implicitDefEqProofs (disch := first | assumption | (simp only [wnA]; done) | (simp only [wnA]; omega) | omega | fail) [wkA, retV, stabOk, dC, ev, fillD, pickCells, putAt, bnd, slD, List.getElem?_cons_zero, List.getElem?_cons_succ, dR_sl, Mem.cell, Mem.row, wmA, hem, rc101_10, rc101_9, rc101_8, beqF f3, f4, f5]
      exact w_PUloop (B := 10) (C := 1844674407370955162) (by omega) (.inr (.inl rfl)) hM hs (by simp [frA_at]) (by simp [frA_at]) (by simp [frA_at]) (by simp) (by simp) he' hq'
    · simp -implicitDefEqProofs (disch := first | assumption | (simp only [wnA]; done) | (simp only [wnA]; omega) | omega | fail) [wkA, retV, stabOk, dC, ev, fillD, pickCells, putAt, bnd, slD, List.getElem?_cons_zero, List.getElem?_cons_succ, dR_sl, Mem.cell, Mem.row, wmA, hem, rc101_10, rc101_9, rc101_8, beqF f3, f4, f5]
      exact w_PUloop (B := 16) (C := 1152921504606846976) (by omega) (.inr (.inr rfl)) hM hs (by simp [frA_at]) (by simp [frA_at]) (by simp [frA_at]) (by simp) (by simp) he' hq'

/-! Errors of the library: a new block that nothing is told of. -/
theorem St.dead {P : Program} {w0 w : World} {G : Loc} {m : Mem} (h : St P w0 G m w) (x : Nat × Nat × Nat) : Loc.le G (fun i => if i = m.next then some x else G i) ∧ St P w0 (fun i => if i = m.next then some x else G i) (m.push .dead) w := by
  have hle : Loc.le G (fun i => if i = m.next then some x else G i) := by
    intro i y hy
    have := h.dom i y hy
    show (if i = m.next then some x else G i) = some y
    rw [if_neg (by omega)]; exact hy
  refine ⟨hle, h.below, ?_, ?_, ?_, ?_, ?_, ?_⟩
  · intro i y hy
    by_cases hi : i = m.next
    · subst hi; simp
    · simp only [hi, if_false] at hy
      have := h.dom i y hy
      simp; omega
  · intro i B b S hd hx
    by_cases hi : i = m.next
    · subst hi; simp at hd
    · simp only [hi, if_false] at hx
      exact h.lim i B b S (by simpa only [Mem.push_get, hi, if_false] using hd) hx
  · intro i hd
    by_cases hi : i = m.next
    · subst hi; simp at hd
    · simp only [Mem.push_get, hi, if_false] at hd ⊢
      obtain ⟨B, b, S, hg, hr⟩ := h.ent i hd
      exact ⟨B, b, S, hg, hr.mono hle⟩
  · intro i j B y z hi hj gi gj
    have key : ∀ k, ((m.push .dead).get k).mine = true → k ≠ m.next ∧ (m.get k).mine = true := by
      intro k hk
      by_cases e : k = m.next
      · subst e; simp [Ent.mine] at hk
      · exact ⟨e, by simpa only [Mem.push_get, e, if_false] using hk⟩
    obtain ⟨e1, k1⟩ := key i hi
    obtain ⟨e2, k2⟩ := key j hj
    simp only [e1, e2, if_false] at gi gj
    exact h.inj i j B y z k1 k2 gi gj
  · intro g hg
    obtain ⟨S, hS⟩ := h.glob g hg
    exact ⟨S, hle _ _ hS⟩
  · intro i cs e B b S hi hx
    by_cases h1 : i = m.next
    · subst h1; simp at hi
    · simp only [Mem.push_get, h1, if_false] at hi hx
      exact h.ali i cs e B b S hi hx
theorem c_callsP {P : Program} {w0 : World} {m : Mem} {f : FuncId} {args : List Value} {T : TypeId} {Q : Value → Mem → Prop} (hcall : callOk P f = true) (ha : args.all (plainV 6) = true)
    (h : ∀ (G : Loc) (w : World), St P w0 G m w → Calls P f args.toArray w fun e w' => ∃ N, e = .returned (.iface T (.pointer (some ⟨N, 0, none⟩))) ∧ Below w.heap.size w w') (hq : Q (.iface T (.pointer (some ⟨m.next, 0, none⟩))) (m.push .dead)) : AbC P w0 f args m Q := by
  intro G w args' hs hargs
  have ha' : ∀ u ∈ args, plainV 6 u = true := by simpa [List.all_eq_true] using ha
  have he : args' = args := VRs.plain_eq hargs fun u hu u' hr => VR.plain_eq 6 u u' (ha' u hu) hr
  subst he
  rw [run_callFunc_enter hcall]
  show Calls _ _ _ _ _
  refine (h G w hs).mono ?_
  rintro e w' ⟨N, rfl, hb⟩
  obtain ⟨h1, h2⟩ := (hs.grown hb).dead (N, 0, 0)
  exact ⟨_, rfl, _, _, _, h1, .iface _ _ _ (.ptr m.next 0 N 0 0 (by simp)), h2, hq⟩

def IfaceAt (w : World) (g : Nat) : Prop := ∃ ev, w.cell? ⟨g, 0, none⟩ = some ev ∧ (ev = .nilIface ∨ ∃ t p, ev = .iface t p)
/-- The library's two errors lie in the world. -/
abbrev ErrV (w : World) : Prop := IfaceAt w 3 ∧ IfaceAt w 4
theorem ifaceAt {P : Program} {w0 w : World} {G : Loc} {m : Mem} {g : Nat} (h : IfaceAt w0 g) (hs : St P w0 G m w) : IfaceAt w g := by
  obtain ⟨ev, h1, h2⟩ := h
  refine ⟨ev, ?_, h2⟩
  have hlt : g < w0.heap.size := by
    rcases Nat.lt_or_ge g w0.heap.size with h' | h'
    · exact h'
    · simp [World.cell?, Array.getElem?_eq_none h'] at h1
  unfold World.cell? at h1 ⊢
  rw [hs.below.block g hlt]; exact h1
theorem c_toError {w0 : World} {m : Mem} {fn s : ByteArray} {base bits c : Int} {Q : Value → Mem → Prop} (hE : ErrV w0) (hc : c = 1 ∨ c = 2) (hs : s.size ≤ 140737488355328) (hq : Q (.iface 207 (.pointer (some ⟨m.next, 0, none⟩))) (m.push .dead)) :
    AbC Tryz.prog w0 102 [.string fn, .string s, .int .i64 base, .int .i64 bits, .iface 204 (.int .i64 c)] m Q := by
  refine c_callsP (T := 207) (by kernel_rfl) (by rcases hc with rfl | rfl <;> rfl) (fun G w hst => ?_) hq
  rcases hc with rfl | rfl
  · obtain ⟨ev, h1, h2⟩ := ifaceAt hE.2 hst
    refine (Tryz.strconv_toError_range fn s base bits ev w (by omega) h1 h2).mono ?_
    rintro e w' ⟨N, rfl, -, -, hb⟩
    exact ⟨N, rfl, hb⟩
  · obtain ⟨ev, h1, h2⟩ := ifaceAt hE.1 hst
    refine (Tryz.strconv_toError_syntax fn s base bits ev w (by omega) h1 h2).mono ?_
    rintro e w' ⟨N, rfl, -, -, hb⟩
    exact ⟨N, rfl, hb⟩
theorem laid_iface {P : Program} {W : World} {l : List (String × DataW Unit)} {name tn : String} {d : DataW Unit} {g t : Nat} {ms : Array _} (h : laidMet P l W) (hm : (name, .iface tn d) ∈ l)
    (hg : P.globalNamed name = some g) (hty : (P.globals[g]?).map (·.type) = some t) (ht : P.underlying t = some (.interface ms)) : IfaceAt W g := by
  obtain ⟨ps, hv, _⟩ := h
  obtain ⟨g', t', cs, fuel, p, h1, h2, h3, h4⟩ := laid_mem hv hm
  obtain rfl := Option.some.inj (hg.symm.trans h1)
  obtain rfl := Option.some.inj (hty.symm.trans h2)
  cases fuel with
  | zero => simp [DataW.trod] at h4
  | succ fuel =>
    have hc := fun v (hv : cs.toList = [v]) => by
      have : W.cell? ⟨g, 0, none⟩ = some v := by
        have := World.var?_cell hg h3 0
        rw [this]
        have e : cs[0]? = cs.toList[0]? := by simp
        rw [e, hv]; rfl
      exact this
    simp only [DataW.trod, ht] at h4
    split at h4 <;> first
      | (cases ‹some (TypeDesc.interface ms) = some _›; done)
      | (cases ‹some (TypeDesc.interface ms) = some _›; first
          | (simp at h4; done)
          | exact ⟨_, hc _ ‹cs.toList = _›, .inr ⟨_, _, rfl⟩⟩)
      | (simp at h4; done)
theorem errV_of {W : World} {l : List (String × DataW Unit)} {d1 d2 : DataW Unit} (h : laidMet Tryz.prog l W) (h1 : ("strconv.ErrSyntax", .iface "*errors.errorString" d1) ∈ l) (h2 : ("strconv.ErrRange", .iface "*errors.errorString" d2) ∈ l) : ErrV W :=
  ⟨laid_iface (g := 3) (t := 36) h h1 (by kernel_rfl) (by kernel_rfl) Tryz.underlying36, laid_iface (g := 4) (t := 36) h h2 (by kernel_rfl) (by kernel_rfl) Tryz.underlying36⟩

theorem c_ParseUint {w0 : World} {m : Mem} {B M bits : Nat} {s : ByteArray} {Q : Value → Mem → Prop} (hE : ErrV w0) (hB : B = 8 ∨ B = 10 ∨ B = 16) (hM : (bits = 32 ∧ M = 4294967295) ∨ (bits = 64 ∧ M = 18446744073709551615)) (hs : s.size ≤ 140737488355328)
    (he : ∀ m' v p, Old m m' → (s.size = 0 ∨ puL B M 0 s.data.toList = none) → Q (.tuple ⟨[.int .u64 v, .iface 207 p]⟩) m')
    (hq : ∀ m' v, Old m m' → s.size ≠ 0 → puL B M 0 s.data.toList = some v → Q (.tuple ⟨[.int .u64 ((v : Nat) : Int), .nilIface]⟩) m') :
    AbC Tryz.prog w0 90 [.string s, .int .i64 (B : Int), .int .i64 (bits : Int)] m Q := by
  refine AbC_fn ok90 (by simp) ?_
  simp -implicitDefEqProofs (disch := first | assumption | (simp only [wnA]; done) | (simp only [wnA]; omega) | omega | fail) [rc90, ro90, wkA, retV, stabOk, dC, ev, fillD, pickCells, putAt, bnd, slD, List.getElem?_cons_zero, List.getElem?_cons_succ, dR_sl, Mem.cell, Mem.row, wmA]
  refine c_iPU hB hM hs (fun m1 v c o1 hc _ _ hn => ?_) fun m1 v o1 h0 hv => ?_
  · simp -implicitDefEqProofs (disch := first | assumption | (simp only [wnA]; done) | (simp only [wnA]; omega) | omega | fail) [wkA, retV, stabOk, dC, ev, fillD, pickCells, putAt, bnd, slD, List.getElem?_cons_zero, List.getElem?_cons_succ, dR_sl, Mem.cell, Mem.row, wmA]
    refine c_toError hE hc hs ?_
    simp -implicitDefEqProofs (disch := first | assumption | (simp only [wnA]; done) | (simp only [wnA]; omega) | omega | fail) [wkA, retV, stabOk, dC, ev, fillD, pickCells, putAt, bnd, slD, List.getElem?_cons_zero, List.getElem?_cons_succ, dR_sl, Mem.cell, Mem.row, wmA]
    exact he _ v _ (o1.push _) hn
  · simp -implicitDefEqProofs (disch := first | assumption | (simp only [wnA]; done) | (simp only [wnA]; omega) | omega | fail) [wkA, retV, stabOk, dC, ev, fillD, pickCells, putAt, bnd, slD, List.getElem?_cons_zero, List.getElem?_cons_succ, dR_sl, Mem.cell, Mem.row, wmA, rc90_0]
    exact hq m1 v o1 h0 hv
end Go.Proofs.YtjlicambfepfiaaGreatDoor.Ab

set_option linter.unusedVariables false
set_option linter.unusedSimpArgs false
namespace Go.Proofs.YtjlicambfepfiaaGreatDoor.Ab
open Go Go.RowKit
set_option maxHeartbeats 4000000
set_option maxRecDepth 100000

theorem dgt_digC : ∀ d : Fin 36, dgt (digC d.val) = some d.val ∧ digC d.val ≠ 43 ∧ digC d.val ≠ 45 := by decide +kernel
theorem puL_snoc {B M : Nat} (c : UInt8) : ∀ (l : List UInt8) (n : Nat), puL B M n (l ++ [c]) = (puL B M n l).bind fun n' => puStep B M n' c
  | [], n => by
    simp only [List.nil_append, puL, Option.bind_some]
    cases puStep B M n c <;> rfl
  | a :: l, n => by
    simp only [List.cons_append, puL]
    cases puStep B M n a with
    | none => rfl
    | some n' => exact puL_snoc c l n'
theorem puL_digs {B M : Nat} (hB : 2 ≤ B ∧ B ≤ 36) : ∀ n, n ≤ M → puL B M 0 (digs B n) = some n := by
  intro n
  induction n using Nat.strongRecOn with
  | _ n ih =>
    intro hn
    by_cases h : n < B
    · rw [digs_lt h]
      simp only [puL, puStep, (dgt_digC ⟨n, by omega⟩).1]
      rw [if_pos ⟨h, by omega⟩]
      simp
    · have h1 : n / B < n := Nat.div_lt_self (by omega) (by omega)
      have h2 : n % B < B := Nat.mod_lt _ (by omega)
      have h3 : n / B * B + n % B = n := Nat.div_add_mod' n B
      rw [digs_ge (by omega) (by omega), puL_snoc, ih _ h1 (by omega)]
      simp only [Option.bind_some, puStep, (dgt_digC ⟨n % B, by omega⟩).1]
      rw [if_pos ⟨h2, by omega⟩, h3]
theorem numS_ofNat {B n : Nat} : numS B (n : Int) = digs B n := by
  unfold numS sgn
  have h : decide ((n : Int) < 0) = false := by simp
  rw [h]
  simp
theorem digs_sgn {B : Nat} (hB : 2 ≤ B ∧ B ≤ 36) : ∀ n, ∀ c ∈ digs B n, c ≠ 43 ∧ c ≠ 45 := by
  intro n
  induction n using Nat.strongRecOn with
  | _ n ih =>
    intro c hc
    by_cases h : n < B
    · rw [digs_lt h] at hc
      simp at hc; subst hc
      exact (dgt_digC ⟨n, by omega⟩).2
    · have h1 : n / B < n := Nat.div_lt_self (by omega) (by omega)
      have h2 : n % B < B := Nat.mod_lt _ (by omega)
      rw [digs_ge (by omega) (by omega), List.mem_append] at hc
      rcases hc with hc | hc
      · exact ih _ h1 c hc
      · simp at hc; subst hc
        exact (dgt_digC ⟨n % B, by omega⟩).2

theorem digs_none {B : Nat} (hB : B = 8 ∨ B = 10 ∨ B = 16) {s : ByteArray} (h : s.size = 0 ∨ puL B 18446744073709551615 0 s.data.toList = none) {k : Nat} (hk : k < 9223372036854775808) : s.data.toList ≠ digs B k := by
  intro e
  rcases h with h | h
  · have := digs_pos B k
    rw [← e] at this
    simp at this
    omega
  · rw [e, puL_digs (by omega) k (by omega)] at h
    cases h
theorem digs_some {B : Nat} (hB : B = 8 ∨ B = 10 ∨ B = 16) {s : ByteArray} {v : Nat} (h : puL B 18446744073709551615 0 s.data.toList = some v) {k : Nat} (hk : k < 9223372036854775808) (e : s.data.toList = digs B k) : v = k := by
  rw [e, puL_digs (by omega) k (by omega)] at h
  exact (Option.some.inj h).symm

theorem dEq_ii {l : List TypeId} {t : TypeId} {k : IntKind} {a b : Int} : dEq (.iface l) (.iface t (.int k a)) (.iface t (.int k b)) = if l.contains t = true then some (a == b) else none := by
  simp [dEq]

end Go.Proofs.YtjlicambfepfiaaGreatDoor.Ab

set_option linter.unusedVariables false
set_option linter.unusedSimpArgs false
namespace Go.Proofs.YtjlicambfepfiaaGreatDoor.Ab
open Go Go.RowKit

theorem ba_idx (l : List UInt8) (n : Nat) : (ByteArray.mk ⟨l⟩)[n]? = l[n]? := by
  show (if h : n < l.length then some _ else none) = _
  split
  · rename_i hj; rw [List.getElem?_eq_getElem hj]; rfl
  · rename_i hj; rw [List.getElem?_eq_none (by omega)]
theorem getOf {S : ByteArray} {n : Nat} {x : UInt8} (g : S[n]? = some x) : ∀ h : n < S.size, S[n]'h = x := fun h => by
  have := getElem?_pos S n h
  rw [g] at this
  exact (Option.some.inj this).symm
theorem ba_size (l : List UInt8) : (ByteArray.mk ⟨l⟩).size = l.length := rfl
end Go.Proofs.YtjlicambfepfiaaGreatDoor.Ab

set_option linter.unusedVariables false
set_option linter.unusedSimpArgs false
namespace Go.Proofs.YtjlicambfepfiaaGreatDoor.Ab
open Go

theorem ixB_cases (c : UInt8) : ∀ l : List UInt8, (Lib.indexByte l c = -1 ∧ c ∉ l) ∨ ∃ a r, l = a ++ c :: r ∧ c ∉ a ∧ Lib.indexByte l c = (a.length : Nat)
  | [] => .inl ⟨rfl, by simp⟩
  | b :: l => by
    unfold Lib.indexByte
    by_cases h : b = c
    · subst h
      exact .inr ⟨[], l, rfl, by simp, by simp⟩
    · have hb : (b == c) = false := by simpa using h
      simp only [hb, Bool.false_eq_true, if_false]
      rcases ixB_cases c l with ⟨h1, h2⟩ | ⟨a, r, h1, h2, h3⟩
      · refine .inl ⟨by rw [h1]; rfl, ?_⟩
        simp only [List.mem_cons, not_or]
        exact ⟨fun e => h e.symm, h2⟩
      · refine .inr ⟨b :: a, r, by rw [h1]; rfl, ?_, ?_⟩
        · simp only [List.mem_cons, not_or]
          exact ⟨fun e => h e.symm, h2⟩
        · rw [h3]
          have : ((a.length : Int) == -1) = false := by simp
          rw [this]
          simp
theorem ixB_hit {c : UInt8} {a r : List UInt8} (h : c ∉ a) : Lib.indexByte (a ++ c :: r) c = (a.length : Nat) := by
  rcases ixB_cases c (a ++ c :: r) with ⟨-, h2⟩ | ⟨a', r', h1, h2, h3⟩
  · exact (h2 (by simp)).elim
  · rw [h3]
    congr 1
    have key : ∀ (a a' r r' : List UInt8), c ∉ a → c ∉ a' → a ++ c :: r = a' ++ c :: r' → a'.length = a.length := by
      intro a
      induction a with
      | nil =>
        intro a' r r' h1 h2 h
        cases a' with
        | nil => rfl
        | cons x a' => simp at h; simp [h.1] at h2
      | cons x a ih =>
        intro a' r r' h1 h2 h
        cases a' with
        | nil => simp at h; simp [h.1] at h1
        | cons y a' =>
          simp at h h1 h2
          simp [ih a' r r' h1.2 h2.2 h.2]
    exact key a a' r r' h h2 h1
theorem ixB_miss {c : UInt8} {a : List UInt8} (h : c ∉ a) : Lib.indexByte a c = -1 := by
  rcases ixB_cases c a with ⟨h1, _⟩ | ⟨a', r', h1, _, _⟩
  · exact h1
  · rw [h1] at h; simp at h

/-- The pieces, put together again. -/
def joinC (c : UInt8) : List (List UInt8) → List UInt8
  | [] => []
  | [a] => a
  | a :: b :: l => a ++ c :: joinC c (b :: l)
theorem splitK_ne {c : UInt8} {k : Nat} {s : List UInt8} : ∃ a l, Lib.splitK [c] 0 k s = a :: l := by
  cases k with
  | zero => exact ⟨_, _, rfl⟩
  | succ k =>
    unfold Lib.splitK
    split
    · exact ⟨_, _, rfl⟩
    · exact ⟨_, _, rfl⟩
theorem splitK_join {c : UInt8} : ∀ (k : Nat) (s : List UInt8), joinC c (Lib.splitK [c] 0 k s) = s
  | 0, s => rfl
  | k + 1, s => by
    unfold Lib.splitK
    rw [Lib.index_one]
    rcases ixB_cases c s with ⟨h1, h2⟩ | ⟨a, r, h1, h2, h3⟩
    · rw [h1]; rfl
    · rw [h3]
      have : ((a.length : Int) == -1) = false := by simp
      rw [this]
      obtain ⟨x, l, hx⟩ := splitK_ne (c := c) (k := k) (s := s.drop (((a.length : Nat) : Int).toNat + [c].length))
      have ih := splitK_join (c := c) k (s.drop (((a.length : Nat) : Int).toNat + [c].length))
      rw [hx] at ih
      simp only [Bool.false_eq_true, if_false, hx, joinC, ih]
      subst h1
      simp
theorem splitK_hit {c : UInt8} {k : Nat} {a r : List UInt8} (h : c ∉ a) : Lib.splitK [c] 0 (k + 1) (a ++ c :: r) = a :: Lib.splitK [c] 0 k r := by
  show (if Lib.index (a ++ c :: r) [c] == -1 then [a ++ c :: r] else (a ++ c :: r).take ((Lib.index (a ++ c :: r) [c]).toNat + 0) :: Lib.splitK [c] 0 k ((a ++ c :: r).drop ((Lib.index (a ++ c :: r) [c]).toNat + [c].length))) = _
  rw [Lib.index_one, ixB_hit h]
  have : ((a.length : Int) == -1) = false := by simp
  rw [this]
  simp only [Bool.false_eq_true, if_false]
  have h1 : ((a.length : Int)).toNat = a.length := by omega
  rw [h1]
  have h2 : (a ++ c :: r).drop (a.length + [c].length) = r := by
    rw [show a.length + [c].length = (a ++ [c]).length from by simp]
    rw [show a ++ c :: r = (a ++ [c]) ++ r from by simp, List.drop_left]
  rw [h2]
  simp
theorem splitK_zero {c : UInt8} {s : List UInt8} : Lib.splitK [c] 0 0 s = [s] := rfl

/-- What lies ahead of the bytes that are trimmed. -/
theorem trim_cases (c : UInt8) (l : List UInt8) : ∃ k, l = Lib.trimRightB l c ++ List.replicate k c := by
  unfold Lib.trimRightB
  have key : ∀ l : List UInt8, ∃ k, l = List.replicate k c ++ l.dropWhile (· == c) := by
    intro l
    induction l with
    | nil => exact ⟨0, rfl⟩
    | cons b l ih =>
      by_cases h : b = c
      · subst h
        obtain ⟨k, hk⟩ := ih
        refine ⟨k + 1, ?_⟩
        simp only [List.dropWhile_cons, beq_self_eq_true, if_true, List.replicate_succ, List.cons_append]
        rw [← hk]
      · have hb : (b == c) = false := by simpa using h
        exact ⟨0, by simp [List.dropWhile_cons, hb]⟩
  obtain ⟨k, hk⟩ := key l.reverse
  refine ⟨k, ?_⟩
  have := congrArg List.reverse hk
  rw [List.reverse_reverse, List.reverse_append, List.reverse_replicate] at this
  exact this
theorem trim_pad {c x : UInt8} {a : List UInt8} (h : x ≠ c) (k : Nat) : Lib.trimRightB (a ++ x :: List.replicate k c) c = a ++ [x] := by
  unfold Lib.trimRightB
  have e : (a ++ x :: List.replicate k c).reverse = List.replicate k c ++ x :: a.reverse := by simp
  rw [e]
  have key : ∀ k, (List.replicate k c ++ x :: a.reverse).dropWhile (· == c) = x :: a.reverse := by
    intro k
    induction k with
    | zero =>
      have hb : (x == c) = false := by simpa using h
      simp [List.dropWhile_cons, hb]
    | succ k ih => simpa [List.replicate_succ, List.dropWhile_cons] using ih
  rw [key]
  simp
end Go.Proofs.YtjlicambfepfiaaGreatDoor.Ab

set_option linter.unusedVariables false
set_option linter.unusedSimpArgs false
namespace Go.Proofs.YtjlicambfepfiaaGreatDoor.Ab
open Go Go.RowKit
open Go.Sort (Holds putRow putCells onCells)
set_option maxHeartbeats 4000000
set_option maxRecDepth 100000

/-- The numeral is written into a row of zeros. -/
theorem c_fmtB10 {w0 : World} {m : Mem} {i n u : Nat} {cs : List Value} {E : TypeId} {Q : Value → Mem → Prop} (hg : m.get i = .own cs E) (hn : n = Lib.nDigits u) (hl : n ≤ cs.length) (hz : ∀ j, j < n → cs[j]? = some (.int .u8 0)) (hu : 1 ≤ u ∧ u < 18446744073709551616)
    (hq : Q (.tuple ⟨[]⟩) (m.set i (.own ((digs 10 u).map byteV ++ cs.drop n) E))) : AbC Tryz.prog w0 108 [.slice (some ⟨i, 0, none⟩) n 1, .int .u64 (u : Int)] m Q := by
  intro G w args' hs hargs
  have hnd : n ≤ 20 := by have := Lib.numDigits_eq u hu.1 hu.2; split at this <;> omega
  have hn1 : 1 ≤ n := by rw [hn, ← Lib.decDigits_length, dec_digs]; exact digs_pos _ _
  cases hargs with
  | cons _ a1 _ r1 h1 hr =>
  cases hr with
  | cons _ a2 _ r2 h2 hr =>
  cases hr
  cases h2
  cases h1 with
  | sl _ _ B b S _ cp _ hgi hnc hcm hS =>
  rw [run_callFunc_enter (by kernel_rfl)]
  show Calls _ _ _ _ _
  obtain ⟨hB, c, fz, hw, hcS, hop, hcell, hlen⟩ := own_get hs hgi hg
  have hlen := hlen (by omega)
  simp only [Nat.add_zero]
  have hH : Holds (fun (b : UInt8) => Value.int .u8 (b.toNat : Int)) w B b (Array.replicate n 0) := by
    intro j hj
    rw [Array.size_replicate] at hj
    obtain ⟨v', hv1, hv2⟩ := hcell j _ (hz j hj)
    cases hv2
    refine ⟨?_, cells_frozen hw hop _ (by omega)⟩
    simp only [World.cell?, hw, Option.isSome_none, Bool.false_eq_true, if_false, hv1]
    rw [getElem!_pos _ j (by simpa using hj), Array.getElem_replicate]; rfl
  have key := Tryz.internal_strconv_formatBase10 B b cp u (Array.replicate n 0) w hH (by rw [Array.size_replicate, hn]; exact Lib.lt_pow_nDigits u) hu.2 (by rw [Array.size_replicate]; omega)
  rw [Array.size_replicate] at key
  refine key.mono ?_
  rintro e w' ⟨rfl, k, v', dk, rfl, hF⟩
  have hdk : dk.size = n := hF.size
  have hst : St Tryz.prog w0 G (m.set i (.own ((digs 10 u).map byteV ++ cs.drop n) E)) ((putRow (fun (b : UInt8) => Value.int .u8 (b.toNat : Int)) w B b dk).drewN k) := by
    have hw' : ((putRow (fun (b : UInt8) => Value.int .u8 (b.toNat : Int)) w B b dk).drewN k).heap[B]? = some (.cells (putCells (fun (b : UInt8) => Value.int .u8 (b.toNat : Int)) b dk c) E fz) := by
      show (w.heap.modify B _)[B]? = _
      rw [Array.getElem?_modify]
      simp [hw, onCells]
    refine hs.write (e := .own ((digs 10 u).map byteV ++ cs.drop n) E) (by rw [hg]; rfl) hgi rfl rfl rfl (by simp [World.drewN]) (fun q hq => ?_) ⟨hB, _, fz, hw', by simp [putCells, hcS], by simpa [putCells] using hop, fun j v hj => ?_⟩ (fun cs' e' he => by cases he; exact ⟨cs, hg⟩)
    · show (w.heap.modify B _)[q]? = _
      rw [Array.getElem?_modify, if_neg (fun e => hq e.symm)]
    · have hdl : (digs 10 u).length = n := by rw [← dec_digs, Lib.decDigits_length, hn]
      rw [List.getElem?_append] at hj
      by_cases hjn : j < n
      · rw [if_pos (by simpa [hdl] using hjn), List.getElem?_map] at hj
        have hjd : j < (digs 10 u).length := by omega
        rw [List.getElem?_eq_getElem hjd] at hj
        simp at hj; subst hj
        refine ⟨_, ?_, .int _ _⟩
        have hjc : b + j < c.size := by omega
        have hnum := Lib.row_is_numeral (u := u) (v' := v') (dk := dk) (by rw [← hn]; exact hF) j (by rw [Lib.decDigits_length, ← hn]; exact hjn)
        have hd2 : (digs 10 u)[j] = dk[j]! := by rw [← hnum]; congr 1; exact (dec_digs u).symm
        simp only [putCells, Array.getElem?_mapIdx]
        rw [Array.getElem?_eq_getElem hjc]
        simp only [Option.map_some]
        rw [if_pos (by omega), Nat.add_sub_cancel_left, hd2]
      · rw [if_neg (by simpa [hdl] using hjn), List.length_map, hdl, List.getElem?_drop, show n + (j - n) = j from by omega] at hj
        obtain ⟨v2, hv1, hv2⟩ := hcell j v hj
        refine ⟨v2, ?_, hv2⟩
        simp only [putCells, Array.getElem?_mapIdx, hv1, Option.map_some]
        rw [if_neg (by omega)]
  exact ⟨_, rfl, G, _, _, Loc.le_refl G, .tuple _ _ .nil, hst, hq⟩

theorem bstr_pre {m : Mem} {i n : Nat} {E : TypeId} {l : List UInt8} {r : List Value} (h : m.get i = .own (l.map byteV ++ r) E) (hl : l.length = n) : bstr m (.slice (some ⟨i, 0, none⟩) n 1) = some (.string ⟨⟨l⟩⟩) := by
  subst hl
  have h1 : (l.map byteV ++ r).take l.length = l.map byteV := by
    rw [List.take_append_of_le_length (by simp)]; exact List.take_of_length_le (by simp)
  simp only [bstr, Mem.row_own h, Nat.zero_add, List.drop_zero, h1]
  rw [if_pos (by simp)]
  simp only [bytesOf_mapN]

theorem c_FormatUint {w0 : World} {m : Mem} {B u : Nat} {Q : Value → Mem → Prop} (hp : Part L0 m) (ht : Ten w0) (hB : B = 10 ∨ B = 16) (hu : u < 18446744073709551616) (hq : ∀ m', Old m m' → Q (.string ⟨⟨digs B u⟩⟩) m') : AbC Tryz.prog w0 91 [.int .u64 (u : Int), .int .i64 (B : Int)] m Q := by
  refine AbC_fn ok91 (by simp) ?_
  simp -implicitDefEqProofs (disch := first | assumption | (simp only [wnA]; done) | (simp only [wnA]; omega) | omega | fail) [rc91, ro91, wkA, retV, stabOk, dC, ev, fillD, pickCells, putAt, bnd, slD, List.getElem?_cons_zero, List.getElem?_cons_succ, dR_sl, Mem.cell, Mem.row, wmA]
  refine AbC_fn ok103 (by simp) ?_
  rcases hB with rfl | rfl
  · by_cases h100 : u < 100
    · have h1 : (u : Int) < 100 := by omega
      have w1 : IntKind.i64.wrap (u : Int) = (u : Int) := w64 (by omega)
      simp -implicitDefEqProofs (disch := first | assumption | (simp only [wnA]; done) | (simp only [wnA]; omega) | omega | fail) [rc103, ro103, wkA, retV, stabOk, dC, ev, fillD, pickCells, putAt, bnd, slD, List.getElem?_cons_zero, List.getElem?_cons_succ, dR_sl, Mem.cell, Mem.row, wmA, h1, w1]
      refine c_calls (v := .string ⟨⟨digs 10 u⟩⟩) (by kernel_rfl) rfl rfl (fun G w hs => ?_) ?_
      · refine (Tryz.internal_strconv_small u h100 w).mono ?_
        rintro e w' ⟨rfl, rfl⟩
        exact ⟨by rw [dec_digs], Below.refl _ _⟩
      · simp -implicitDefEqProofs (disch := first | assumption | (simp only [wnA]; done) | (simp only [wnA]; omega) | omega | fail) [wkA, retV, stabOk, dC, ev, fillD, pickCells, putAt, bnd, slD, List.getElem?_cons_zero, List.getElem?_cons_succ, dR_sl, Mem.cell, Mem.row, wmA]
        exact hq m (Old.refl m)
    · have h1 : ¬ (u : Int) < 100 := by omega
      have hnd : Lib.nDigits u ≤ 20 := by have := Lib.numDigits_eq u (by omega) hu; split at this <;> omega
      have hdl : (digs 10 u).length = Lib.nDigits u := by rw [← dec_digs, Lib.decDigits_length]
      have hn1 := digs_pos 10 u
      simp -implicitDefEqProofs (disch := first | assumption | (simp only [wnA]; done) | (simp only [wnA]; omega) | omega | fail) [rc103, ro103, rc103_0, wkA, retV, stabOk, dC, ev, fillD, pickCells, putAt, bnd, slD, List.getElem?_cons_zero, List.getElem?_cons_succ, dR_sl, Mem.cell, Mem.row, wmA, h1]
      refine c_calls (v := .int .i64 (Lib.nDigits u)) (by kernel_rfl) rfl rfl (fun G w hs => ?_) ?_
      · refine (Tryz.internal_strconv_numDigits u (by omega) hu w (tab_at ht hs)).mono ?_
        rintro e w' ⟨rfl, rfl⟩
        exact ⟨rfl, Below.refl _ _⟩
      · generalize hN : Lib.nDigits u = n at *
        have hi : (0 : Int) ≤ (n : Int) ∧ (n : Int) ≤ 24 := by omega
        have hn0 : n ≠ 0 := by omega
        have hn24 : n ≤ 24 := by omega
        simp -implicitDefEqProofs (disch := first | assumption | (simp only [wnA]; done) | (simp only [wnA]; omega) | omega | fail) [wkA, retV, stabOk, dC, ev, fillD, pickCells, putAt, bnd, slD, List.getElem?_cons_zero, List.getElem?_cons_succ, dR_sl, Mem.cell, Mem.row, wmA, hi, hn24]
        refine c_fmtB10 (Mem.push_same m _) hN.symm (by simp; omega) (fun j hj => ?_) ⟨by omega, hu⟩ ?_
        · have hj24 : j < 24 := by omega
          have : ∀ k : Fin 24, (List.replicate 24 (Value.int .u8 0))[k.val]? = some (Value.int .u8 0) := fun k => by rw [List.getElem?_replicate, if_pos k.isLt]
          exact this ⟨j, hj24⟩
        · have hgo : ∀ (M : Mem), M.get m.next = .own ((digs 10 u).map byteV ++ (List.replicate 24 (Value.int .u8 0)).drop n) 199 → (((digs 10 u).map byteV ++ (List.replicate 24 (Value.int .u8 0)).drop n).length = 24) → True := fun _ _ _ => trivial
          have hlen24 : ((digs 10 u).map byteV ++ (List.replicate 24 (Value.int .u8 0)).drop n).length = 24 := by
            rw [List.length_append, List.length_map, List.length_drop, List.length_replicate, hdl]; omega
          have ho : ∀ E1 E2, Old m ((m.push E1).set m.next E2) := fun E1 E2 => ((Old.refl m).push E1).set (Nat.le_refl _) E2
          have hbs : ∀ E1, bstr ((m.push E1).set m.next (.own ((digs 10 u).map byteV ++ (List.replicate 24 (Value.int .u8 0)).drop n) 199)) (.slice (some ⟨m.next, 0, none⟩) n 1) = some (.string ⟨⟨digs 10 u⟩⟩) := fun E1 => bstr_pre (Mem.set_same _ _ _) hdl
          have hrep : (List.replicate 24 (Value.int .u8 0)) = [.int .u8 0, .int .u8 0, .int .u8 0, .int .u8 0, .int .u8 0, .int .u8 0, .int .u8 0, .int .u8 0, .int .u8 0, .int .u8 0, .int .u8 0, .int .u8 0, .int .u8 0, .int .u8 0, .int .u8 0, .int .u8 0, .int .u8 0, .int .u8 0, .int .u8 0, .int .u8 0, .int .u8 0, .int .u8 0, .int .u8 0, .int .u8 0] := rfl
          rw [hrep] at hlen24 hbs
          generalize hR : (digs 10 u).map byteV ++ List.drop n [.int .u8 0, .int .u8 0, .int .u8 0, .int .u8 0, .int .u8 0, .int .u8 0, .int .u8 0, .int .u8 0, .int .u8 0, .int .u8 0, .int .u8 0, .int .u8 0, .int .u8 0, .int .u8 0, .int .u8 0, .int .u8 0, .int .u8 0, .int .u8 0, .int .u8 0, .int .u8 0, .int .u8 0, .int .u8 0, .int .u8 0, .int .u8 0] = R at *
          simp -implicitDefEqProofs (disch := first | assumption | (simp only [wnA]; done) | (simp only [wnA]; omega) | omega | fail) [wkA, retV, stabOk, dC, ev, fillD, pickCells, putAt, bnd, slD, List.getElem?_cons_zero, List.getElem?_cons_succ, dR_sl, Mem.cell, Mem.row, wmA, hi, hn24, hlen24, hbs]
          exact hq _ (ho _ _)
  · simp -implicitDefEqProofs (disch := first | assumption | (simp only [wnA]; done) | (simp only [wnA]; omega) | omega | fail) [rc103, ro103, wkA, retV, stabOk, dC, ev, fillD, pickCells, putAt, bnd, slD, List.getElem?_cons_zero, List.getElem?_cons_succ, dR_sl, Mem.cell, Mem.row, wmA, rc103_1]
    refine c_fmtBits (B := 16) (k := 4) (a := u) (neg := false) hp rfl (by omega) (by omega) hu (by simp) pow16 tz16 fun m' ho => ?_
    simp -implicitDefEqProofs (disch := first | assumption | (simp only [wnA]; done) | (simp only [wnA]; omega) | omega | fail) [wkA, retV, stabOk, dC, ev, fillD, pickCells, putAt, bnd, slD, List.getElem?_cons_zero, List.getElem?_cons_succ, dR_sl, Mem.cell, Mem.row, wmA]
    exact hq m' ho
end Go.Proofs.YtjlicambfepfiaaGreatDoor.Ab
