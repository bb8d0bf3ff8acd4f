/- errors.As at the two targets of package api: a Fault's place and number (a walk over the model itself, after the guide's worked example of errors.As). -/
import Derived.Test.YtgfkjldohilmkaaDoorAbz
import Derived.Test.YtgfkjldohilmkaaDoorProg
import Derived.WalkKit
import Derived.LaidEql
import Derived.Stop.Asserts
import Derived.RowKitTokens
import Derived.KernelRfl
set_option linter.unusedVariables false
set_option linter.unusedSimpArgs false
namespace Go.Proofs.YtgfkjldohilmkaaDoor.As
open Go Go.RowKit Go.Extern.Stop Go.Stop Go.Extern
set_option maxRecDepth 100000

abbrev hd (T : TypeId) : Value := .pointer (some ⟨7, T, none⟩)
abbrev rt (T : TypeId) : Value := .iface 120 (.agg #[hd T])
theorem valueOfP (t : Addr) (w : World) : (ReflectliteValue.unpack (.iface 85 (.pointer (some t)))).run Tryd.prog w
    = .ok (.agg #[hd 85, .pointer (some ⟨w.heap.size, 0, none⟩), .int .u64 150]) (w.alloc (.cells #[.pointer (some t)] 85)) := by kernel_rfl
theorem typeP (a : Addr) (w : World) : (ReflectliteValue.methodAny (ReflectliteValue.valueError "reflectlite.Value.Type" 0) (fun t _ _ _ => ReflectliteType.toType t) #[.agg #[hd 85, .pointer (some a), .int .u64 150]]).run Tryd.prog w = .ok (rt 85) w := by kernel_rfl
theorem methodKind (h : Value) (w : World) : (Go.method 285 120 (.agg #[h]) "Kind").run Tryd.prog w = .ok (98, h) w := by kernel_rfl
theorem methodElem (h : Value) (w : World) : (Go.method 285 120 (.agg #[h]) "Elem").run Tryd.prog w = .ok (111, .agg #[h]) w := by kernel_rfl
theorem methodImplements (h : Value) (w : World) : (Go.method 285 120 (.agg #[h]) "Implements").run Tryd.prog w = .ok (112, .agg #[h]) w := by kernel_rfl
theorem methodAssignableTo (h : Value) (w : World) : (Go.method 285 120 (.agg #[h]) "AssignableTo").run Tryd.prog w = .ok (109, .agg #[h]) w := by kernel_rfl
theorem kindP (w : World) : ((ReflectliteType.abiMethod fun t => (fun a : Nat => Value.int IntKind.u8 (a : Int)) <$> Rtype.kind t) #[hd 85]).run Tryd.prog w = .ok (.int .u8 22) w := by kernel_rfl
theorem kindF (w : World) : ((ReflectliteType.abiMethod fun t => (fun a : Nat => Value.int IntKind.u8 (a : Int)) <$> Rtype.kind t) #[hd 84]).run Tryd.prog w = .ok (.int .u8 25) w := by kernel_rfl
theorem elemP (w : World) : (ReflectliteType.method ReflectliteType.elem #[.agg #[hd 85]]).run Tryd.prog w = .ok (rt 84) w := by kernel_rfl
theorem implF (w : World) : (ReflectliteType.relation "Implements" ReflectliteType.implements_ #[.agg #[hd 84], rt 28]).run Tryd.prog w = .ok (.bool true) w := by kernel_rfl
theorem typeOfF (v : Value) (w : World) : (ReflectliteType.typeOf #[.iface 84 v]).run Tryd.prog w = .ok (rt 84) w := by kernel_rfl
theorem assignF (w : World) : (ReflectliteType.relation "AssignableTo" ReflectliteType.assignableTo #[.agg #[hd 84], rt 84]).run Tryd.prog w = .ok (.bool true) w := by kernel_rfl
theorem valueOfF (n a : Int) (w : World) : (ReflectliteValue.unpack (.iface 84 (.agg #[.int .i64 n, .int .i64 a]))).run Tryd.prog w
    = .ok (.agg #[hd 84, .pointer (some ⟨w.heap.size, 0, none⟩), .int .u64 153]) (w.alloc (.cells #[.int .i64 n, .int .i64 a] 84)) := by kernel_rfl
theorem rlm (z : Sem Value) (f : TypeId → Addr → Nat → Nat → Sem Value) (v : Value) :
    ReflectliteValue.method z f #[v] = (do match ← ReflectliteValue.parts v with | none => z | some (t, a, fl) => f t a fl (fl % 32)) := rfl
theorem partsP (a : Addr) (w : World) : (ReflectliteValue.parts (.agg #[hd 85, .pointer (some a), .int .u64 150])).run Tryd.prog w = .ok (some (85, a, 150)) w := by kernel_rfl
theorem isNilP (a p : Addr) (W : World) (ha : W.cell? a = some (.pointer (some p))) :
    (ReflectliteValue.method (ReflectliteValue.valueError "reflectlite.Value.IsNil" 0) ReflectliteValue.isNil #[.agg #[hd 85, .pointer (some a), .int .u64 150]]).run Tryd.prog W = .ok (.bool false) W := by
  rw [rlm]
  simp only [Sem.run_bind, partsP, Result.andThen]
  simp [ReflectliteValue.isNil, loadVar, isAgg, underlying, Tryd.underlying85, ha, Result.andThen]
theorem elemOfP (w : World) : (Rtype.elem? 85).run Tryd.prog w = .ok (some 84) w := by kernel_rfl
theorem mkF (p : Addr) (w : World) : (ReflectliteValue.mk 84 p ReflectliteValue.flagAddr).run Tryd.prog w = .ok (.agg #[hd 84, .pointer (some p), .int .u64 409]) w := by kernel_rfl
theorem elemVP (a p : Addr) (W : World) (ha : W.cell? a = some (.pointer (some p))) :
    (ReflectliteValue.method (ReflectliteValue.valueError "reflectlite.Value.Elem" 0) ReflectliteValue.elem #[.agg #[hd 85, .pointer (some a), .int .u64 150]]).run Tryd.prog W
      = .ok (.agg #[hd 84, .pointer (some p), .int .u64 409]) W := by
  rw [rlm]
  simp only [Sem.run_bind, partsP, Result.andThen]
  simp [ReflectliteValue.elem, loadVar, isAgg, underlying, Tryd.underlying85, ha, Result.andThen, elemOfP, mkF]
theorem rls (v x : Value) : ReflectliteValue.set #[v, x] = (do
    let (some (dst, a, fl), some (src, b, _)) := (← ReflectliteValue.parts v, ← ReflectliteValue.parts x)
      | unsupported (.noEntry "extern/(internal/reflectlite.Value).Set.zeroValue")
    if fl / ReflectliteValue.flagAddr % 2 == 0 then unsupported (.noEntry "extern/(internal/reflectlite.Value).Set.unaddressable")
    let val ← loadVar src b
    if ← Rtype.directlyAssignable dst src then storeVar dst a val
    else if ← Rtype.implements dst src then
      if (← Rtype.kind src) == 20 then
        match val with
        | .nilIface => unsupported (.noEntry "extern/reflectlite: a nil value of one interface type handed on as a value of another")
        | _ => storeVar dst a val
      else storeVar dst a (.iface src val)
    else panicString ("reflectlite.Set: value of type " ++ (← Rtype.spelt src) ++ " is not assignable to type " ++ (← Rtype.spelt dst))
    pure (.tuple #[])) := rfl
theorem partsFa (a : Addr) (w : World) : (ReflectliteValue.parts (.agg #[hd 84, .pointer (some a), .int .u64 409])).run Tryd.prog w = .ok (some (84, a, 409)) w := by kernel_rfl
theorem partsF (a : Addr) (w : World) : (ReflectliteValue.parts (.agg #[hd 84, .pointer (some a), .int .u64 153])).run Tryd.prog w = .ok (some (84, a, 153)) w := by kernel_rfl
theorem directF (w : World) : (Rtype.directlyAssignable 84 84).run Tryd.prog w = .ok true w := by kernel_rfl
theorem sizeF (w : World) : (sizeOf 84).run Tryd.prog w = .ok 2 w := by kernel_rfl
theorem setF (t : Addr) (bb : Nat) (n a : Int) (W W' : World) (hb0 : W.cell? ⟨bb, 0, none⟩ = some (.int .i64 n)) (hb1 : W.cell? ⟨bb, 1, none⟩ = some (.int .i64 a))
    (hst : (storeCells t [.int .i64 n, .int .i64 a]).run Tryd.prog W = .ok () W') :
    (ReflectliteValue.set #[.agg #[hd 84, .pointer (some t), .int .u64 409], .agg #[hd 84, .pointer (some ⟨bb, 0, none⟩), .int .u64 153]]).run Tryd.prog W = .ok (.tuple #[]) W' := by
  rw [rls]
  simp only [Sem.run_bind, partsFa, partsF, Result.andThen]
  simp [ReflectliteValue.flagAddr, loadVar, isAgg, underlying, Tryd.underlying84, Result.andThen, directF, storeVar, Value.cells, sizeF]
  have hl : (loadCells ⟨bb, 0, none⟩ 2).run Tryd.prog W = .ok #[.int .i64 n, .int .i64 a] W := by
    simp [loadCells, loadCellsFrom, run_load, hb0, hb1, Addr.add, Result.andThen]
  rw [hl]
  simp [hst]

/-- What errors.As lays, before it writes. -/
def laidP (w : World) (t : Addr) : World := ((w.alloc (.cells #[.pointer (some t)] 85)).alloc (.cells #[hd 85, .pointer (some ⟨w.heap.size, 0, none⟩), .int .u64 150] 96)).alloc (.cells #[hd 85, .pointer (some ⟨w.heap.size, 0, none⟩), .int .u64 150] 96)

set_option maxHeartbeats 4000000 in
theorem as_place (n a : Int) (t : Addr) (w W' : World) (hg : w.cell? ⟨0, 0, none⟩ = some (rt 28)) (ht : t.block < w.heap.size)
    (hst : (storeCells t [.int .i64 n, .int .i64 a]).run Tryd.prog ((laidP w t).alloc (.cells #[.int .i64 n, .int .i64 a] 84)) = .ok () W') :
    Calls Tryd.prog 32 #[.iface 84 (.agg #[.int .i64 n, .int .i64 a]), .iface 85 (.pointer (some t))] w fun ev w' => ev = .returned (.bool true) ∧ w' = W' := by
  have h6 := @run_callFunc_extern Tryd.prog 43 _ (fun args => ReflectliteValue.unpack (args.getD 0 (.tuple #[]))) Tryd.func43 (by kernel_rfl) (by kernel_rfl) (by kernel_rfl) (by kernel_rfl)
  have h7 := @run_callFunc_extern Tryd.prog 44 _ (ReflectliteValue.methodAny (ReflectliteValue.valueError "reflectlite.Value.Type" 0) (fun t _ _ _ => ReflectliteType.toType t)) Tryd.func44 (by kernel_rfl) (by kernel_rfl) (by kernel_rfl) (by kernel_rfl)
  have h8 := @run_callFunc_extern Tryd.prog 45 _ (ReflectliteValue.method (ReflectliteValue.valueError "reflectlite.Value.IsNil" 0) ReflectliteValue.isNil) Tryd.func45 (by kernel_rfl) (by kernel_rfl) (by kernel_rfl) (by kernel_rfl)
  have h27 := @run_callFunc_extern Tryd.prog 98 _ (ReflectliteType.abiMethod fun t => do pure (.int .u8 (← Rtype.kind t))) Tryd.func98 (by kernel_rfl) (by kernel_rfl) (by kernel_rfl) (by kernel_rfl)
  have h37 := @run_callFunc_extern Tryd.prog 111 _ (ReflectliteType.method ReflectliteType.elem) Tryd.func111 (by kernel_rfl) (by kernel_rfl) (by kernel_rfl) (by kernel_rfl)
  have h38 := @run_callFunc_extern Tryd.prog 112 _ (ReflectliteType.relation "Implements" ReflectliteType.implements_) Tryd.func112 (by kernel_rfl) (by kernel_rfl) (by kernel_rfl) (by kernel_rfl)
  have h10 := @run_callFunc_extern Tryd.prog 59 _ ReflectliteType.typeOf Tryd.func59 (by kernel_rfl) (by kernel_rfl) (by kernel_rfl) (by kernel_rfl)
  have h35 := @run_callFunc_extern Tryd.prog 109 _ (ReflectliteType.relation "AssignableTo" ReflectliteType.assignableTo) Tryd.func109 (by kernel_rfl) (by kernel_rfl) (by kernel_rfl) (by kernel_rfl)
  have h11 := @run_callFunc_extern Tryd.prog 60 _ (ReflectliteValue.method (ReflectliteValue.valueError "reflectlite.Value.Elem" 0) ReflectliteValue.elem) Tryd.func60 (by kernel_rfl) (by kernel_rfl) (by kernel_rfl) (by kernel_rfl)
  have h12 := @run_callFunc_extern Tryd.prog 61 _ ReflectliteValue.set Tryd.func61 (by kernel_rfl) (by kernel_rfl) (by kernel_rfl) (by kernel_rfl)
  have tO := typeOfF
  have mA := methodAssignableTo
  have a25 := assignF
  have v25 := valueOfF
  have f6 := valueOfP
  have f7 := typeP
  have mK := methodKind
  have mE := methodElem
  have mI := methodImplements
  have k27 := kindP
  have k25 := kindF
  have e27 := elemP
  have i25 := implF
  have hlt : 0 < w.heap.size := by
    rcases Nat.lt_or_ge 0 w.heap.size with h | h
    · exact h
    · simp [World.cell?, Array.getElem?_eq_none h] at hg
  have n8 := isNilP ⟨w.heap.size, 0, none⟩ t ((w.alloc (.cells #[.pointer (some t)] 85)).alloc (.cells #[hd 85, .pointer (some ⟨w.heap.size, 0, none⟩), .int .u64 150] 96)) (by simp)
  have hg2 : ((w.alloc (.cells #[.pointer (some t)] 85)).alloc (.cells #[hd 85, .pointer (some ⟨w.heap.size, 0, none⟩), .int .u64 150] 96)).cell? ⟨0, 0, none⟩ = some (rt 28) := by
    rw [World.cell?_alloc_lt _ _ ⟨0, 0, none⟩ (by first | (simp; done) | (simp; omega)), World.cell?_alloc_lt _ _ ⟨0, 0, none⟩ hlt]; exact hg
  have el := elemVP ⟨w.heap.size, 0, none⟩ t (laidP w t) (by unfold laidP; rw [World.cell?_alloc_lt _ _ ⟨w.heap.size, 0, none⟩ (by simp; omega)]; simp)
  have st := setF t (w.heap.size + 1 + 1 + 1) n a ((laidP w t).alloc (.cells #[.int .i64 n, .int .i64 a] 84)) W'
    (by rw [World.cell?_alloc_at _ _ _ _ (by simp [laidP])]; rfl)
    (by rw [World.cell?_alloc_at _ _ _ _ (by simp [laidP])]; rfl) hst
  unfold laidP at el st
  clear hst
  go_enter Tryd.func32, Tryd.ntmps32
  go_wp2
  refine wp_loop_rounds 1 ?_
  rw [rounds_succ]
  go_wp2
  go_ret
  exact ⟨rfl, rfl⟩
end Go.Proofs.YtgfkjldohilmkaaDoor.As
/- errors.As at the target *Errno: a Fault's number, behind its Unwrap. -/
set_option linter.unusedVariables false
set_option linter.unusedSimpArgs false
namespace Go.Proofs.YtgfkjldohilmkaaDoor.As
open Go Go.RowKit Go.Extern.Stop Go.Stop Go.Extern
set_option maxRecDepth 100000

theorem valueOfQ (t : Addr) (w : World) : (ReflectliteValue.unpack (.iface 82 (.pointer (some t)))).run Tryd.prog w
    = .ok (.agg #[hd 82, .pointer (some ⟨w.heap.size, 0, none⟩), .int .u64 150]) (w.alloc (.cells #[.pointer (some t)] 82)) := by kernel_rfl
theorem typeQ (a : Addr) (w : World) : (ReflectliteValue.methodAny (ReflectliteValue.valueError "reflectlite.Value.Type" 0) (fun t _ _ _ => ReflectliteType.toType t) #[.agg #[hd 82, .pointer (some a), .int .u64 150]]).run Tryd.prog w = .ok (rt 82) w := by kernel_rfl
theorem kindQ (w : World) : ((ReflectliteType.abiMethod fun t => (fun a : Nat => Value.int IntKind.u8 (a : Int)) <$> Rtype.kind t) #[hd 82]).run Tryd.prog w = .ok (.int .u8 22) w := by kernel_rfl
theorem kindE (w : World) : ((ReflectliteType.abiMethod fun t => (fun a : Nat => Value.int IntKind.u8 (a : Int)) <$> Rtype.kind t) #[hd 44]).run Tryd.prog w = .ok (.int .u8 2) w := by kernel_rfl
theorem elemQ (w : World) : (ReflectliteType.method ReflectliteType.elem #[.agg #[hd 82]]).run Tryd.prog w = .ok (rt 44) w := by kernel_rfl
theorem implE (w : World) : (ReflectliteType.relation "Implements" ReflectliteType.implements_ #[.agg #[hd 44], rt 28]).run Tryd.prog w = .ok (.bool true) w := by kernel_rfl
theorem typeOfE (v : Value) (w : World) : (ReflectliteType.typeOf #[.iface 44 v]).run Tryd.prog w = .ok (rt 44) w := by kernel_rfl
theorem assignFE (w : World) : (ReflectliteType.relation "AssignableTo" ReflectliteType.assignableTo #[.agg #[hd 84], rt 44]).run Tryd.prog w = .ok (.bool false) w := by kernel_rfl
theorem assignE (w : World) : (ReflectliteType.relation "AssignableTo" ReflectliteType.assignableTo #[.agg #[hd 44], rt 44]).run Tryd.prog w = .ok (.bool true) w := by kernel_rfl
theorem valueOfE (n : Int) (w : World) : (ReflectliteValue.unpack (.iface 44 (.int .i64 n))).run Tryd.prog w
    = .ok (.agg #[hd 44, .pointer (some ⟨w.heap.size, 0, none⟩), .int .u64 130]) (w.alloc (.cells #[.int .i64 n] 44)) := by kernel_rfl
theorem partsQ (a : Addr) (w : World) : (ReflectliteValue.parts (.agg #[hd 82, .pointer (some a), .int .u64 150])).run Tryd.prog w = .ok (some (82, a, 150)) w := by kernel_rfl
theorem isNilQ (a p : Addr) (W : World) (ha : W.cell? a = some (.pointer (some p))) :
    (ReflectliteValue.method (ReflectliteValue.valueError "reflectlite.Value.IsNil" 0) ReflectliteValue.isNil #[.agg #[hd 82, .pointer (some a), .int .u64 150]]).run Tryd.prog W = .ok (.bool false) W := by
  rw [rlm]
  simp only [Sem.run_bind, partsQ, Result.andThen]
  simp [ReflectliteValue.isNil, loadVar, isAgg, underlying, Tryd.underlying82, ha, Result.andThen]
theorem elemOfQ (w : World) : (Rtype.elem? 82).run Tryd.prog w = .ok (some 44) w := by kernel_rfl
theorem mkE (p : Addr) (w : World) : (ReflectliteValue.mk 44 p ReflectliteValue.flagAddr).run Tryd.prog w = .ok (.agg #[hd 44, .pointer (some p), .int .u64 386]) w := by kernel_rfl
theorem elemVQ (a p : Addr) (W : World) (ha : W.cell? a = some (.pointer (some p))) :
    (ReflectliteValue.method (ReflectliteValue.valueError "reflectlite.Value.Elem" 0) ReflectliteValue.elem #[.agg #[hd 82, .pointer (some a), .int .u64 150]]).run Tryd.prog W
      = .ok (.agg #[hd 44, .pointer (some p), .int .u64 386]) W := by
  rw [rlm]
  simp only [Sem.run_bind, partsQ, Result.andThen]
  simp [ReflectliteValue.elem, loadVar, isAgg, underlying, Tryd.underlying82, ha, Result.andThen, elemOfQ, mkE]
theorem partsEa (a : Addr) (w : World) : (ReflectliteValue.parts (.agg #[hd 44, .pointer (some a), .int .u64 386])).run Tryd.prog w = .ok (some (44, a, 386)) w := by kernel_rfl
theorem partsE (a : Addr) (w : World) : (ReflectliteValue.parts (.agg #[hd 44, .pointer (some a), .int .u64 130])).run Tryd.prog w = .ok (some (44, a, 130)) w := by kernel_rfl
theorem directE (w : World) : (Rtype.directlyAssignable 44 44).run Tryd.prog w = .ok true w := by kernel_rfl
theorem sizeE (w : World) : (sizeOf 44).run Tryd.prog w = .ok 1 w := by kernel_rfl
theorem setE (t : Addr) (bb : Nat) (n : Int) (W W' : World) (hb0 : W.cell? ⟨bb, 0, none⟩ = some (.int .i64 n))
    (hst : (storeCells t [.int .i64 n]).run Tryd.prog W = .ok () W') :
    (ReflectliteValue.set #[.agg #[hd 44, .pointer (some t), .int .u64 386], .agg #[hd 44, .pointer (some ⟨bb, 0, none⟩), .int .u64 130]]).run Tryd.prog W = .ok (.tuple #[]) W' := by
  rw [rls]
  simp only [Sem.run_bind, partsEa, partsE, Result.andThen]
  simp [ReflectliteValue.flagAddr, loadVar, isAgg, underlying, Tryd.underlying44, Result.andThen, directE, storeVar, Value.cells, sizeE, hb0, hst]
theorem methodUnwrap (v : Value) (w : World) : (Go.method 285 84 v "Unwrap").run Tryd.prog w = .ok (104, v) w := by kernel_rfl
theorem unwrap (n a : Int) (w : World) : Calls Tryd.prog 104 #[.agg #[.int .i64 n, .int .i64 a]] w fun ev w' => ev = .returned (.iface 44 (.int .i64 n)) ∧ w' = w.alloc (.cells #[.int .i64 n, .int .i64 a] 84) := by
  go_enter Tryd.func104, Tryd.ntmps104
  go_wp2
  go_ret
  exact ⟨rfl, rfl⟩
def laidQ (w : World) (t : Addr) : World := ((w.alloc (.cells #[.pointer (some t)] 82)).alloc (.cells #[hd 82, .pointer (some ⟨w.heap.size, 0, none⟩), .int .u64 150] 96)).alloc (.cells #[hd 82, .pointer (some ⟨w.heap.size, 0, none⟩), .int .u64 150] 96)

set_option maxHeartbeats 4000000 in
theorem as_number (n a : Int) (t : Addr) (w W' : World) (hg : w.cell? ⟨0, 0, none⟩ = some (rt 28)) (ht : t.block < w.heap.size)
    (hst : (storeCells t [.int .i64 n]).run Tryd.prog (((laidQ w t).alloc (.cells #[.int .i64 n, .int .i64 a] 84)).alloc (.cells #[.int .i64 n] 44)) = .ok () W') :
    Calls Tryd.prog 32 #[.iface 84 (.agg #[.int .i64 n, .int .i64 a]), .iface 82 (.pointer (some t))] w fun ev w' => ev = .returned (.bool true) ∧ w' = W' := by
  have h6 := @run_callFunc_extern Tryd.prog 43 _ (fun args => ReflectliteValue.unpack (args.getD 0 (.tuple #[]))) Tryd.func43 (by kernel_rfl) (by kernel_rfl) (by kernel_rfl) (by kernel_rfl)
  have h7 := @run_callFunc_extern Tryd.prog 44 _ (ReflectliteValue.methodAny (ReflectliteValue.valueError "reflectlite.Value.Type" 0) (fun t _ _ _ => ReflectliteType.toType t)) Tryd.func44 (by kernel_rfl) (by kernel_rfl) (by kernel_rfl) (by kernel_rfl)
  have h8 := @run_callFunc_extern Tryd.prog 45 _ (ReflectliteValue.method (ReflectliteValue.valueError "reflectlite.Value.IsNil" 0) ReflectliteValue.isNil) Tryd.func45 (by kernel_rfl) (by kernel_rfl) (by kernel_rfl) (by kernel_rfl)
  have h27 := @run_callFunc_extern Tryd.prog 98 _ (ReflectliteType.abiMethod fun t => do pure (.int .u8 (← Rtype.kind t))) Tryd.func98 (by kernel_rfl) (by kernel_rfl) (by kernel_rfl) (by kernel_rfl)
  have h37 := @run_callFunc_extern Tryd.prog 111 _ (ReflectliteType.method ReflectliteType.elem) Tryd.func111 (by kernel_rfl) (by kernel_rfl) (by kernel_rfl) (by kernel_rfl)
  have h38 := @run_callFunc_extern Tryd.prog 112 _ (ReflectliteType.relation "Implements" ReflectliteType.implements_) Tryd.func112 (by kernel_rfl) (by kernel_rfl) (by kernel_rfl) (by kernel_rfl)
  have h10 := @run_callFunc_extern Tryd.prog 59 _ ReflectliteType.typeOf Tryd.func59 (by kernel_rfl) (by kernel_rfl) (by kernel_rfl) (by kernel_rfl)
  have h35 := @run_callFunc_extern Tryd.prog 109 _ (ReflectliteType.relation "AssignableTo" ReflectliteType.assignableTo) Tryd.func109 (by kernel_rfl) (by kernel_rfl) (by kernel_rfl) (by kernel_rfl)
  have h11 := @run_callFunc_extern Tryd.prog 60 _ (ReflectliteValue.method (ReflectliteValue.valueError "reflectlite.Value.Elem" 0) ReflectliteValue.elem) Tryd.func60 (by kernel_rfl) (by kernel_rfl) (by kernel_rfl) (by kernel_rfl)
  have h12 := @run_callFunc_extern Tryd.prog 61 _ ReflectliteValue.set Tryd.func61 (by kernel_rfl) (by kernel_rfl) (by kernel_rfl) (by kernel_rfl)
  have tO := typeOfF
  have tO2 := typeOfE
  have mA := methodAssignableTo
  have a25 := assignFE
  have a26 := assignE
  have v25 := valueOfE
  have f6 := valueOfQ
  have f7 := typeQ
  have mK := methodKind
  have mE := methodElem
  have mI := methodImplements
  have k27 := kindQ
  have k25 := kindE
  have e27 := elemQ
  have i25 := implE
  have hlt : 0 < w.heap.size := by
    rcases Nat.lt_or_ge 0 w.heap.size with h | h
    · exact h
    · simp [World.cell?, Array.getElem?_eq_none h] at hg
  have n8 := isNilQ ⟨w.heap.size, 0, none⟩ t ((w.alloc (.cells #[.pointer (some t)] 82)).alloc (.cells #[hd 82, .pointer (some ⟨w.heap.size, 0, none⟩), .int .u64 150] 96)) (by simp)
  have hg2 : ((w.alloc (.cells #[.pointer (some t)] 82)).alloc (.cells #[hd 82, .pointer (some ⟨w.heap.size, 0, none⟩), .int .u64 150] 96)).cell? ⟨0, 0, none⟩ = some (rt 28) := by
    rw [World.cell?_alloc_lt _ _ ⟨0, 0, none⟩ (by first | (simp; done) | (simp; omega)), World.cell?_alloc_lt _ _ ⟨0, 0, none⟩ hlt]; exact hg
  have el := elemVQ ⟨w.heap.size, 0, none⟩ t ((laidQ w t).alloc (.cells #[.int .i64 n, .int .i64 a] 84)) (by unfold laidQ; rw [World.cell?_alloc_lt _ _ ⟨w.heap.size, 0, none⟩ (by simp; omega)]; rw [World.cell?_alloc_lt _ _ ⟨w.heap.size, 0, none⟩ (by simp; omega)]; simp)
  have st := setE t (w.heap.size + 1 + 1 + 1 + 1) n (((laidQ w t).alloc (.cells #[.int .i64 n, .int .i64 a] 84)).alloc (.cells #[.int .i64 n] 44)) W'
    (by rw [World.cell?_alloc_at _ _ _ _ (by simp [laidQ])]; rfl) hst
  have mU := methodUnwrap
  have tA := fun (v : Value) (xT : TypeId) (w : World) => run_typeAssert_lacksB (P := Tryd.prog) (t := 84) (asserted := 125) Tryd.underlying125 (by kernel_rfl) (z := .nilIface) (by kernel_rfl) v xT w
  have tU := fun (v : Value) (xT : TypeId) (w : World) => run_typeAssert_hasB (P := Tryd.prog) (t := 84) (asserted := 128) Tryd.underlying128 (by kernel_rfl) v xT w
  unfold laidQ at el st
  clear hst
  go_enter Tryd.func32, Tryd.ntmps32
  go_wp2
  refine wp_loop_rounds 2 ?_
  rw [rounds_succ]
  go_wp2_with (go_at_call 104; refine (unwrap n a _).mono ?_; rintro e w' ⟨rfl, rfl⟩)
  rw [rounds_succ]
  go_wp2
  go_ret
  exact ⟨rfl, rfl⟩
end Go.Proofs.YtgfkjldohilmkaaDoor.As
