/- The law TokenNumber, as its statement says it: for every input; the listed variables hold what the program's text lays. -/
import Derived.Test.YtilknkpaghihhaaDoorAbtk16
import Derived.Test.YtilknkpaghihhaaDoorCards
import Derived.Test.YtilknkpaghihhaaDoorTie
import Derived.WalkKit
import Derived.ProofKit
import Derived.OpenShut
import Derived.JoinedCond
import Derived.ChangeOld
import Derived.Deep.DeepHandedRow
import Derived.Deep.DeepWitnessRowRef
namespace Go.Proofs.YtilknkpaghihhaaDoor.tokenNumber
open Go Go.ChangeShapes Go.WideShapes Go.ChangeAt Go.RowKit Go.Proofs.YtilknkpaghihhaaDoor.Ab
set_option linter.unusedVariables false

theorem own : ownKnob Tryd.prog.godebug = none := by kernel_rfl
theorem laidOut : laidOutB Tryd.prog = true := by kernel_rfl

set_option maxRecDepth 100000 in
theorem contract (H : Type) (enc : TypeId × Value → H) (W : World) (base : Nat) (args : Array Value) (ds gs : List (DataW H)) (before : List MemPlace)
    (hval : ∀ (j : Nat) t v, Tryd.f7.params[j]? = some t → args[j]? = some v → Value.okWide Tryd.prog W .any base t v)
    (hW : DataW.Whole enc Tryd.prog Tryd.f7.params.toList Rows.tokenNumberSpec.vars false W args.toList ds gs before) (hL : laidMetH Tryd.prog Rows.tokenNumberRow.laid W) :
    Calls Tryd.prog 7 args W fun e W' => ∃ v, e = .returned v ∧ Rows.tokenNumberSpec.post enc Tryd.prog Tryd.f7 false true false false W args v W' := by
  have hW' := hW
  obtain ⟨hL', hLh⟩ := (show laidMet Tryd.prog (Rows.tokenNumberRow.laid.filter fun x => x.2.handleName?.isNone) W ∧ handlesMet Tryd.prog (Rows.tokenNumberRow.laid.filter fun x => x.2.handleName?.isSome) W from hL)
  obtain ⟨p, q, hA0, hV, rfl, hfz, hnd⟩ := hW
  have hA : DataW.TrodAll enc Tryd.prog W 0 (fun _ => true) true Tryd.f7.params.toList args.toList ds p := hA0
  rw [Tryd.params7] at hA hval
  obtain ⟨v0, vs0, d0, ds0, p0, q0, hargs, rfl, rfl, h0, r0⟩ := trodAll_cons hA
  obtain ⟨v1, vs1, d1, ds1, p1, q1, rfl, rfl, rfl, h1, r1⟩ := trodAll_cons r0
  obtain ⟨v2, vs2, d2, ds2, p2, q2, rfl, rfl, rfl, h2, r2⟩ := trodAll_cons r1
  obtain ⟨rfl, rfl, rfl⟩ := trodAll_nil r2
  obtain rfl : args = #[v0, v1, v2] := by cases args; simp_all
  obtain ⟨rfl, rfl⟩ := trodVars_none hV
  obtain ⟨a0, rfl⟩ := okWide_int Tryd.underlying41 (hval 0 41 v0 rfl rfl)
  have lt0 : ∀ x ∈ p0, x.block < W.heap.size := by obtain ⟨m, hm⟩ := h0; exact DataW.trod_lt m _ _ _ hm
  obtain ⟨a1, rfl⟩ := okWide_bool Tryd.underlying4 (hval 1 4 v1 rfl rfl)
  have lt1 : ∀ x ∈ p1, x.block < W.heap.size := by obtain ⟨m, hm⟩ := h1; exact DataW.trod_lt m _ _ _ hm
  obtain ⟨a2, rfl⟩ := okWide_int Tryd.underlying5 (hval 2 5 v2 rfl rfl)
  have lt2 : ∀ x ∈ p2, x.block < W.heap.size := by obtain ⟨m, hm⟩ := h2; exact DataW.trod_lt m _ _ _ hm
  have s : St Tryd.prog W (G0 Tryd.prog) (toMem L0) W := St.laid globals_size L0_get laid_ok (laidIn hL' (List.mem_of_getElem? (i := 0) rfl) (List.mem_of_getElem? (i := 1) rfl) (List.mem_of_getElem? (i := 2) rfl))
  have hp : Part L0 (toMem L0) := Part.of L0_part (Nat.le_refl _) fun _ _ => rfl
  obtain ⟨G0, m0, x0, t0, g0, s0, u0, b0, f0, k0⟩ := arg_one (k := 5) (s := .int .u32) (by kernel_rfl) h0 rfl s
  have hp := g0.part hp
  obtain ⟨G1, m1, x1, t1, g1, s1, u1, b1, f1, k1⟩ := arg_one (k := 5) (s := .bool) (by kernel_rfl) h1 rfl s0
  have hp := g1.part hp
  have b0 := b0.mono g1.2.1 g1.2.2
  have u0 := u0.mono g1.1
  obtain ⟨G2, m2, x2, t2, g2, s2, u2, b2, f2, k2⟩ := arg_one (k := 5) (s := .int .u8) (by kernel_rfl) h2 rfl s1
  have hp := g2.part hp
  have b0 := b0.mono g2.2.1 g2.2.2
  have u0 := u0.mono g2.1
  have b1 := b1.mono g2.2.1 g2.2.2
  have u1 := u1.mono g2.1
  refine (AbC_true s2 (.cons _ _ _ _ u0 (.cons _ _ _ _ u1 (.cons _ _ _ _ u2 .nil))) ((by obtain ⟨n, hx, -, w⟩ := absT_int b0 f0; obtain ⟨bb, hx1, -⟩ := absT_bool b1 f1; obtain ⟨z, hx2, -, w2⟩ := absT_int b2 f2; cases hx; cases hx1; cases hx2; exact l_Number hp (ten_of hL' (List.mem_of_getElem? (i := 2) rfl)) (errV_of hL' (List.mem_of_getElem? (i := 4) rfl) (List.mem_of_getElem? (i := 3) rfl)) (errT_of hLh (List.mem_of_getElem? (i := 0) rfl)) (wf_u32 w) (wf_u8 w2))) (by kernel_rfl)).mono fun e W' ⟨he, bel⟩ => ?_
  subst he
  exact ⟨_, rfl, _, _, _, [], _, [], hW', trodAll_mk1 (shut_bool Tryd.underlying4 _), (trodAll_cons_mk (Below.trod laidOut (by kernel_rfl) (of_decide_eq_true (by kernel_rfl)) h0 bel lt0) (trodAll_cons_mk (Below.trod laidOut (by kernel_rfl) (of_decide_eq_true (by kernel_rfl)) h1 bel lt1) (trodAll_cons_mk (Below.trod laidOut (by kernel_rfl) (of_decide_eq_true (by kernel_rfl)) h2 bel lt2) trodAll_mk0))), rfl, bel.frame _, fun h => by cases h⟩

noncomputable def laidWorld (os : Os) : World :=
  let N := (World.settled Tryd.prog os).heap.size
  { World.holding Tryd.prog os ⟨#[.cells #[.string ⟨#[118, 97, 108, 117, 101, 32, 111, 117, 116, 32, 111, 102, 32, 114, 97, 110, 103, 101]⟩] 127, .cells #[.string ⟨#[105, 110, 118, 97, 108, 105, 100, 32, 115, 121, 110, 116, 97, 120]⟩] 127], #[], []⟩ with heap := (((((((World.holding Tryd.prog os ⟨#[.cells #[.string ⟨#[118, 97, 108, 117, 101, 32, 111, 117, 116, 32, 111, 102, 32, 114, 97, 110, 103, 101]⟩] 127, .cells #[.string ⟨#[105, 110, 118, 97, 108, 105, 100, 32, 115, 121, 110, 116, 97, 120]⟩] 127], #[], []⟩).heap.modify 5 fun | .cells _ t frozen => .cells ⟨e32⟩ t frozen | o => o).modify 6 fun | .cells _ t frozen => .cells ⟨e64⟩ t frozen | o => o).modify 4 fun | .cells _ t frozen => .cells ⟨e10⟩ t frozen | o => o).modify 3 fun | .cells _ t frozen => .cells #[.iface 125 (.pointer (some ⟨N, 0, none⟩))] t frozen | o => o).modify 2 fun | .cells _ t frozen => .cells #[.iface 125 (.pointer (some ⟨N + 1, 0, none⟩))] t frozen | o => o).modify 0 fun | .cells _ t frozen => .cells #[.iface 89 (.agg #[.pointer (some ⟨7, 27, none⟩)])] t frozen | o => o) }
theorem laid_met (os : Os) : laidMetH Tryd.prog Rows.tokenNumberRow.laid ((laidWorld os).forCall (fun _ _ => 0) ⟨#[], #[(.int .u32 0 : Value), (.bool false : Value), (.int .u8 0 : Value)], []⟩).memory :=
  laidMetH_of_parts (laidMet_of_run' 8 (by kernel_rfl) (by kernel_rfl)) (by kernel_rfl)
theorem reads (os : Os) {H : Type} (enc : TypeId × Value → H) : ∃ places, DataW.whole enc Tryd.prog ((laidWorld os).forCall (fun _ _ => 0) ⟨#[], #[(.int .u32 0 : Value), (.bool false : Value), (.int .u8 0 : Value)], []⟩).memory Tryd.f7.params.toList Rows.tokenNumberSpec.vars false [(.int .u32 0 : Value), (.bool false : Value), (.int .u8 0 : Value)] 8 = some ([.lit (.int .u32 0), .lit (.bool false), .lit (.int .u8 0)], [], places) :=
  ⟨[], by kernel_rfl⟩

set_option maxRecDepth 100000 in
theorem lifted (os : Os) (started : os.Started) (H : Type) (enc : TypeId × Value → H) (F : Stop.Interp) :
    ReturnsInHanded {} Tryd.checked os 7 .any ((OpenSpec.ofChange Rows.tokenNumberSpec).preRow enc Tryd.prog Tryd.f7 Rows.tokenNumberRow.domain false Rows.tokenNumberRow.laid) (((OpenSpec.ofChange Rows.tokenNumberSpec).at F).post enc Tryd.prog Tryd.f7 false true false false) := by
  obtain ⟨places, hx⟩ := reads os enc
  refine returnsInHanded_of_row (C := Tryd.checked) (s := (OpenSpec.ofChange Rows.tokenNumberSpec)) own started (by kernel_rfl) Tryd.func7
    (witness_row_atRef (enc := enc) (C := Tryd.checked) false (laidWorld os) #[(.int .u32 0 : Value), (.bool false : Value), (.int .u8 0 : Value)] rfl (by kernel_rfl) (by kernel_rfl) (by kernel_rfl)
      (OpenSpec.preRow_of_cond 8 hx (by kernel_rfl) (fun k hk => by cases hk) (by kernel_rfl) (laid_met os))) ?_
  intro W base args ds gs before hval hW _ _ _ hL _ _
  exact contract H enc W base args ds gs before hval hW hL

theorem over : Rows.TokenNumberSaid :=
  OpenClaim.holds_of_cond 7 Tryd.f7 rfl rfl rfl rfl rfl rfl rfl ⟨rfl, rfl, rfl, rfl, rfl⟩ rfl rfl rfl rfl rfl (by kernel_rfl) Tryd.func7 (by kernel_rfl)
    (of_decide_eq_true (by kernel_rfl)) (by unfold Func.isWrapper; first | (rw [if_pos (by decide +kernel)]; kernel_rfl) | (rw [if_neg (by decide +kernel)]; exact ⟨rfl, rfl⟩))
    (fun os started H enc _ F => by rw [OpenClaim.pre_eq_preRow]; exact lifted os started H enc F)

theorem plain (f : FuncId) (fn : Func) (hf : Tryd.pinned.checked.prog.funcNamed "lifeline/lifelinelaw15.TokenNumber" = some f) (hfn : Tryd.pinned.checked.prog.funcs[f]? = some fn) :
    true = Tryd.pinned.checked.prog.looks [] ∧ ∀ (j : Nat) t, fn.params[j]? = some t → Tryd.pinned.checked.prog.wantsStandIn t = false := by
  obtain rfl : f = 7 := Option.some.inj ((show Tryd.prog.funcNamed "lifeline/lifelinelaw15.TokenNumber" = some 7 by kernel_rfl).symm.trans hf) |>.symm
  obtain rfl : fn = Tryd.f7 := (Option.some.inj (Tryd.func7.symm.trans hfn)).symm
  refine ⟨by kernel_rfl, fun j t ht => ?_⟩
  rw [Tryd.params7] at ht
  have hall : ∀ t ∈ [41, 4, 5], Tryd.prog.wantsStandIn t = false := by
    intro t ht
    simp only [List.mem_cons, List.mem_nil_iff, or_false] at ht
    rcases ht with rfl | rfl | rfl <;> kernel_rfl
  exact hall t (by simpa using Array.mem_of_getElem? ht)

theorem proved : Rows.TokenNumberCardSaid :=
  Claim7.holds_tied_plain_at .later [] _ _ _ _ over (fun _ h => by cases h) (by kernel_rfl) (fun _ h => by cases h) tokenNumber_row_tie rfl ⟨rfl, rfl⟩ (by kernel_rfl) rfl plain (by kernel_rfl)
#print axioms proved
end Go.Proofs.YtilknkpaghihhaaDoor.tokenNumber

