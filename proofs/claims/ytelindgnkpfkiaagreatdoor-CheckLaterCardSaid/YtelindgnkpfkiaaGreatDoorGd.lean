/-
  errors.As and errors.Is at the errors that there are: a number, a fault. Conditions: those named in each theorem.
-/
import Derived.Test.YtelindgnkpfkiaaGreatDoorQ1CheckFeesCard
import Derived.Test.YtelindgnkpfkiaaGreatDoorQ4CheckFeesCard
import Derived.LaidEql
import Derived.Stop.Asserts
import Derived.Lib.IfaceEq
import Derived.RowKitTokens
namespace Go.Proofs.YtelindgnkpfkiaaGreatDoor
open Go.RowKit Go.Extern.Stop Go.Stop Go.Extern Go.BigFrame
set_option linter.unusedVariables false
set_option linter.unusedSimpArgs false

def noV (n : Int) : Value := .iface 42 (.int .i64 n)
def faV (b : Nat) : Value := .iface 96 (.pointer (some ⟨b, 0, none⟩))
def FaAt (w : World) (b : Nat) (at_ n : Int) : Prop := w.heap[b]? = some (.cells #[.int .i64 at_, noV n] 98 (0, 0))
/-- errors.errorType's cell. -/
def HdAt (w : World) : Prop := w.cell? ⟨0, 0, none⟩ = some (.iface 141 (.agg #[.pointer (some ⟨2, 38, none⟩)]))
theorem HdAt.lt {w : World} (h : HdAt w) : 0 < w.heap.size := by
  rcases Nat.eq_zero_or_pos w.heap.size with h0 | h1
  · unfold HdAt at h; simp [World.cell?, h0] at h
  · exact h1
theorem HdAt.below {w w' : World} (h : HdAt w) (hb : Below w.heap.size w w') : HdAt w' := by
  unfold HdAt at *
  exact below_cells hb _ _ h

/-! ### closed facts: reflectlite's types -/
theorem rlTypeNo (a : Addr) (w : World) : (ReflectliteValue.methodAny (ReflectliteValue.valueError "reflectlite.Value.Type" 0) (fun t _ _ _ => ReflectliteType.toType t) #[.agg #[.pointer (some ⟨2, 119, none⟩), .pointer (some a), .int .u64 150]]).run Tryz.prog w = .ok (.iface 141 (.agg #[.pointer (some ⟨2, 119, none⟩)])) w := by kernel_rfl
theorem rlTypeFa (a : Addr) (w : World) : (ReflectliteValue.methodAny (ReflectliteValue.valueError "reflectlite.Value.Type" 0) (fun t _ _ _ => ReflectliteType.toType t) #[.agg #[.pointer (some ⟨2, 120, none⟩), .pointer (some a), .int .u64 150]]).run Tryz.prog w = .ok (.iface 141 (.agg #[.pointer (some ⟨2, 120, none⟩)])) w := by kernel_rfl
theorem rlKind (h : Value) (w : World) : (Go.method 326 141 (.agg #[h]) "Kind").run Tryz.prog w = .ok (128, h) w := by kernel_rfl
theorem rlElem (h : Value) (w : World) : (Go.method 326 141 (.agg #[h]) "Elem").run Tryz.prog w = .ok (137, .agg #[h]) w := by kernel_rfl
theorem rlImpl (h : Value) (w : World) : (Go.method 326 141 (.agg #[h]) "Implements").run Tryz.prog w = .ok (138, .agg #[h]) w := by kernel_rfl
theorem rlAss (h : Value) (w : World) : (Go.method 326 141 (.agg #[h]) "AssignableTo").run Tryz.prog w = .ok (135, .agg #[h]) w := by kernel_rfl
theorem rlComp (h : Value) (w : World) : (Go.method 326 141 (.agg #[h]) "Comparable").run Tryz.prog w = .ok (136, .agg #[h]) w := by kernel_rfl
theorem faUnwrap (h : Value) (w : World) : (Go.method 326 96 h "Unwrap").run Tryz.prog w = .ok (133, h) w := by kernel_rfl
theorem kindPNo (w : World) : ((ReflectliteType.abiMethod fun t => (fun a : Nat => Value.int IntKind.u8 (a : Int)) <$> Rtype.kind t) #[.pointer (some ⟨2, 119, none⟩)]).run Tryz.prog w = .ok (.int .u8 22) w := by kernel_rfl
theorem kindPFa (w : World) : ((ReflectliteType.abiMethod fun t => (fun a : Nat => Value.int IntKind.u8 (a : Int)) <$> Rtype.kind t) #[.pointer (some ⟨2, 120, none⟩)]).run Tryz.prog w = .ok (.int .u8 22) w := by kernel_rfl
theorem kindNo (w : World) : ((ReflectliteType.abiMethod fun t => (fun a : Nat => Value.int IntKind.u8 (a : Int)) <$> Rtype.kind t) #[.pointer (some ⟨2, 42, none⟩)]).run Tryz.prog w = .ok (.int .u8 2) w := by kernel_rfl
theorem kindFa (w : World) : ((ReflectliteType.abiMethod fun t => (fun a : Nat => Value.int IntKind.u8 (a : Int)) <$> Rtype.kind t) #[.pointer (some ⟨2, 96, none⟩)]).run Tryz.prog w = .ok (.int .u8 22) w := by kernel_rfl
theorem elemNo (w : World) : (ReflectliteType.method ReflectliteType.elem #[.agg #[.pointer (some ⟨2, 119, none⟩)]]).run Tryz.prog w = .ok (.iface 141 (.agg #[.pointer (some ⟨2, 42, none⟩)])) w := by kernel_rfl
theorem elemFa (w : World) : (ReflectliteType.method ReflectliteType.elem #[.agg #[.pointer (some ⟨2, 120, none⟩)]]).run Tryz.prog w = .ok (.iface 141 (.agg #[.pointer (some ⟨2, 96, none⟩)])) w := by kernel_rfl
theorem implNo (w : World) : (ReflectliteType.relation "Implements" ReflectliteType.implements_ #[.agg #[.pointer (some ⟨2, 42, none⟩)], .iface 141 (.agg #[.pointer (some ⟨2, 38, none⟩)])]).run Tryz.prog w = .ok (.bool true) w := by kernel_rfl
theorem implFa (w : World) : (ReflectliteType.relation "Implements" ReflectliteType.implements_ #[.agg #[.pointer (some ⟨2, 96, none⟩)], .iface 141 (.agg #[.pointer (some ⟨2, 38, none⟩)])]).run Tryz.prog w = .ok (.bool true) w := by kernel_rfl
theorem typeOfNo (v : Value) (w : World) : (ReflectliteType.typeOf #[.iface 42 v]).run Tryz.prog w = .ok (.iface 141 (.agg #[.pointer (some ⟨2, 42, none⟩)])) w := by kernel_rfl
theorem typeOfFa (v : Value) (w : World) : (ReflectliteType.typeOf #[.iface 96 v]).run Tryz.prog w = .ok (.iface 141 (.agg #[.pointer (some ⟨2, 96, none⟩)])) w := by kernel_rfl
theorem assNN (w : World) : (ReflectliteType.relation "AssignableTo" ReflectliteType.assignableTo #[.agg #[.pointer (some ⟨2, 42, none⟩)], .iface 141 (.agg #[.pointer (some ⟨2, 42, none⟩)])]).run Tryz.prog w = .ok (.bool true) w := by kernel_rfl
theorem assFF (w : World) : (ReflectliteType.relation "AssignableTo" ReflectliteType.assignableTo #[.agg #[.pointer (some ⟨2, 96, none⟩)], .iface 141 (.agg #[.pointer (some ⟨2, 96, none⟩)])]).run Tryz.prog w = .ok (.bool true) w := by kernel_rfl
theorem assNF (w : World) : (ReflectliteType.relation "AssignableTo" ReflectliteType.assignableTo #[.agg #[.pointer (some ⟨2, 42, none⟩)], .iface 141 (.agg #[.pointer (some ⟨2, 96, none⟩)])]).run Tryz.prog w = .ok (.bool false) w := by kernel_rfl
theorem assFN (w : World) : (ReflectliteType.relation "AssignableTo" ReflectliteType.assignableTo #[.agg #[.pointer (some ⟨2, 96, none⟩)], .iface 141 (.agg #[.pointer (some ⟨2, 42, none⟩)])]).run Tryz.prog w = .ok (.bool false) w := by kernel_rfl
theorem compNo (w : World) : (ReflectliteType.method (fun t => do Rtype.noPackHeld "Comparable" t; pure (.bool (← typeInfo t).comparable)) #[.agg #[.pointer (some ⟨2, 42, none⟩)]]).run Tryz.prog w = .ok (.bool true) w := by kernel_rfl

/-! ### reflectlite's Values -/
theorem unpNo (n : Int) (w : World) : (ReflectliteValue.unpack (.iface 42 (.int .i64 n))).run Tryz.prog w = .ok (.agg #[.pointer (some ⟨2, 42, none⟩), .pointer (some ⟨w.heap.size, 0, none⟩), .int .u64 130]) (w.alloc (.cells #[.int .i64 n] 42)) := by kernel_rfl
theorem unpFa (e : Addr) (w : World) : (ReflectliteValue.unpack (.iface 96 (.pointer (some e)))).run Tryz.prog w = .ok (.agg #[.pointer (some ⟨2, 96, none⟩), .pointer (some ⟨w.heap.size, 0, none⟩), .int .u64 150]) (w.alloc (.cells #[.pointer (some e)] 96)) := by kernel_rfl
theorem unpPNo (t : Addr) (w : World) : (ReflectliteValue.unpack (.iface 119 (.pointer (some t)))).run Tryz.prog w = .ok (.agg #[.pointer (some ⟨2, 119, none⟩), .pointer (some ⟨w.heap.size, 0, none⟩), .int .u64 150]) (w.alloc (.cells #[.pointer (some t)] 119)) := by kernel_rfl
theorem unpPFa (t : Addr) (w : World) : (ReflectliteValue.unpack (.iface 120 (.pointer (some t)))).run Tryz.prog w = .ok (.agg #[.pointer (some ⟨2, 120, none⟩), .pointer (some ⟨w.heap.size, 0, none⟩), .int .u64 150]) (w.alloc (.cells #[.pointer (some t)] 120)) := by kernel_rfl
theorem rlm (z : Sem Value) (f : TypeId → Addr → Nat → Nat → Sem Value) (v : Value) :
    ReflectliteValue.method z f #[v] = (do match ← ReflectliteValue.parts v with | none => z | some (t, a, fl) => f t a fl (fl % 32)) := rfl
theorem partsPNo (a : Addr) (w : World) : (ReflectliteValue.parts (.agg #[.pointer (some ⟨2, 119, none⟩), .pointer (some a), .int .u64 150])).run Tryz.prog w = .ok (some (119, a, 150)) w := by kernel_rfl
theorem partsPFa (a : Addr) (w : World) : (ReflectliteValue.parts (.agg #[.pointer (some ⟨2, 120, none⟩), .pointer (some a), .int .u64 150])).run Tryz.prog w = .ok (some (120, a, 150)) w := by kernel_rfl
theorem isNilNo (a p : Addr) (W : World) (ha : W.cell? a = some (.pointer (some p))) :
    (ReflectliteValue.method (ReflectliteValue.valueError "reflectlite.Value.IsNil" 0) ReflectliteValue.isNil #[.agg #[.pointer (some ⟨2, 119, none⟩), .pointer (some a), .int .u64 150]]).run Tryz.prog W = .ok (.bool false) W := by
  rw [rlm]
  simp only [Sem.run_bind, partsPNo, Result.andThen]
  simp [ReflectliteValue.isNil, loadVar, isAgg, underlying, Tryz.underlying119, ha, Result.andThen]
theorem isNilFa (a p : Addr) (W : World) (ha : W.cell? a = some (.pointer (some p))) :
    (ReflectliteValue.method (ReflectliteValue.valueError "reflectlite.Value.IsNil" 0) ReflectliteValue.isNil #[.agg #[.pointer (some ⟨2, 120, none⟩), .pointer (some a), .int .u64 150]]).run Tryz.prog W = .ok (.bool false) W := by
  rw [rlm]
  simp only [Sem.run_bind, partsPFa, Result.andThen]
  simp [ReflectliteValue.isNil, loadVar, isAgg, underlying, Tryz.underlying120, ha, Result.andThen]
theorem elemOfNo (w : World) : (Rtype.elem? 119).run Tryz.prog w = .ok (some 42) w := by kernel_rfl
theorem elemOfFa (w : World) : (Rtype.elem? 120).run Tryz.prog w = .ok (some 96) w := by kernel_rfl
theorem mkNo (p : Addr) (w : World) : (ReflectliteValue.mk 42 p ReflectliteValue.flagAddr).run Tryz.prog w = .ok (.agg #[.pointer (some ⟨2, 42, none⟩), .pointer (some p), .int .u64 386]) w := by kernel_rfl
theorem mkFa (p : Addr) (w : World) : (ReflectliteValue.mk 96 p ReflectliteValue.flagAddr).run Tryz.prog w = .ok (.agg #[.pointer (some ⟨2, 96, none⟩), .pointer (some p), .int .u64 406]) w := by kernel_rfl
theorem elemVNo (a p : Addr) (W : World) (ha : W.cell? a = some (.pointer (some p))) :
    (ReflectliteValue.method (ReflectliteValue.valueError "reflectlite.Value.Elem" 0) ReflectliteValue.elem #[.agg #[.pointer (some ⟨2, 119, none⟩), .pointer (some a), .int .u64 150]]).run Tryz.prog W = .ok (.agg #[.pointer (some ⟨2, 42, none⟩), .pointer (some p), .int .u64 386]) W := by
  rw [rlm]
  simp only [Sem.run_bind, partsPNo, Result.andThen]
  simp [ReflectliteValue.elem, loadVar, isAgg, underlying, Tryz.underlying119, ha, Result.andThen, elemOfNo, mkNo]
theorem elemVFa (a p : Addr) (W : World) (ha : W.cell? a = some (.pointer (some p))) :
    (ReflectliteValue.method (ReflectliteValue.valueError "reflectlite.Value.Elem" 0) ReflectliteValue.elem #[.agg #[.pointer (some ⟨2, 120, none⟩), .pointer (some a), .int .u64 150]]).run Tryz.prog W = .ok (.agg #[.pointer (some ⟨2, 96, none⟩), .pointer (some p), .int .u64 406]) W := by
  rw [rlm]
  simp only [Sem.run_bind, partsPFa, Result.andThen]
  simp [ReflectliteValue.elem, loadVar, isAgg, underlying, Tryz.underlying120, ha, Result.andThen, elemOfFa, mkFa]
theorem rls (v x : Value) : ReflectliteValue.set #[v, x] = (do
    let (some (dst, a, fl), some (src, b, _)) := (← ReflectliteValue.parts v, ← ReflectliteValue.parts x)
      | unsupported (.noEntry "extern/(internal/reflectlite.Value).Set.zeroValue")
    if fl / ReflectliteValue.flagAddr % 2 == 0 then unsupported (.noEntry "extern/(internal/reflectlite.Value).Set.unaddressable")
    let val ← loadVar src b
    if ← Rtype.directlyAssignable dst src then storeVar dst a val
    else if ← Rtype.implements dst src then
      if (← Rtype.kind src) == 20 then
        match val with
        | .nilIface => unsupported (.noEntry "extern/reflectlite: a nil value of one interface type handed on as a value of another")
        | _ => storeVar dst a val
      else storeVar dst a (.iface src val)
    else panicString ("reflectlite.Set: value of type " ++ (← Rtype.spelt src) ++ " is not assignable to type " ++ (← Rtype.spelt dst))
    pure (.tuple #[])) := rfl
theorem partsNoA (a : Addr) (w : World) : (ReflectliteValue.parts (.agg #[.pointer (some ⟨2, 42, none⟩), .pointer (some a), .int .u64 386])).run Tryz.prog w = .ok (some (42, a, 386)) w := by kernel_rfl
theorem partsNo (a : Addr) (w : World) : (ReflectliteValue.parts (.agg #[.pointer (some ⟨2, 42, none⟩), .pointer (some a), .int .u64 130])).run Tryz.prog w = .ok (some (42, a, 130)) w := by kernel_rfl
theorem partsFaA (a : Addr) (w : World) : (ReflectliteValue.parts (.agg #[.pointer (some ⟨2, 96, none⟩), .pointer (some a), .int .u64 406])).run Tryz.prog w = .ok (some (96, a, 406)) w := by kernel_rfl
theorem partsFa (a : Addr) (w : World) : (ReflectliteValue.parts (.agg #[.pointer (some ⟨2, 96, none⟩), .pointer (some a), .int .u64 150])).run Tryz.prog w = .ok (some (96, a, 150)) w := by kernel_rfl
theorem directNo (w : World) : (Rtype.directlyAssignable 42 42).run Tryz.prog w = .ok true w := by kernel_rfl
theorem directFa (w : World) : (Rtype.directlyAssignable 96 96).run Tryz.prog w = .ok true w := by kernel_rfl
theorem setNo (ta b : Addr) (n : Int) (old : Value) (W : World) (hb : W.cell? b = some (.int .i64 n)) (ht : W.cell? ta = some old) (hf : W.frozen? ta = false) :
    (ReflectliteValue.set #[.agg #[.pointer (some ⟨2, 42, none⟩), .pointer (some ta), .int .u64 386], .agg #[.pointer (some ⟨2, 42, none⟩), .pointer (some b), .int .u64 130]]).run Tryz.prog W = .ok (.tuple #[]) (W.setCell ta (.int .i64 n)) := by
  rw [rls]
  simp only [Sem.run_bind, partsNoA, partsNo, Result.andThen]
  simp [ReflectliteValue.flagAddr, loadVar, isAgg, underlying, Tryz.underlying42, hb, Result.andThen, directNo, storeVar, Value.cells, storeCells, Addr.add]
  rw [run_store Tryz.prog W ta _ _ (by rfl)]
  simp [ht, hf]
theorem setFa (ta b e : Addr) (old : Value) (W : World) (hb : W.cell? b = some (.pointer (some e))) (ht : W.cell? ta = some old) (hf : W.frozen? ta = false) :
    (ReflectliteValue.set #[.agg #[.pointer (some ⟨2, 96, none⟩), .pointer (some ta), .int .u64 406], .agg #[.pointer (some ⟨2, 96, none⟩), .pointer (some b), .int .u64 150]]).run Tryz.prog W = .ok (.tuple #[]) (W.setCell ta (.pointer (some e))) := by
  rw [rls]
  simp only [Sem.run_bind, partsFaA, partsFa, Result.andThen]
  simp [ReflectliteValue.flagAddr, loadVar, isAgg, underlying, Tryz.underlying96, hb, Result.andThen, directFa, storeVar, Value.cells, storeCells, Addr.add]
  rw [run_store Tryz.prog W ta _ _ (by rfl)]
  simp [ht, hf]
/-! ### which methods an error has -/
theorem noAsNo (v : Value) (xT : TypeId) (w : World) : (Instr.typeAssert (.iface 42 v) xT 177 true).run Tryz.prog w = .ok (.tuple #[.nilIface, .bool false]) w := run_typeAssert_lacksB Tryz.underlying177 (by kernel_rfl) (by kernel_rfl) v xT w
theorem noAsFa (v : Value) (xT : TypeId) (w : World) : (Instr.typeAssert (.iface 96 v) xT 177 true).run Tryz.prog w = .ok (.tuple #[.nilIface, .bool false]) w := run_typeAssert_lacksB Tryz.underlying177 (by kernel_rfl) (by kernel_rfl) v xT w
theorem noIsNo (v : Value) (xT : TypeId) (w : World) : (Instr.typeAssert (.iface 42 v) xT 143 true).run Tryz.prog w = .ok (.tuple #[.nilIface, .bool false]) w := run_typeAssert_lacksB Tryz.underlying143 (by kernel_rfl) (by kernel_rfl) v xT w
theorem noIsFa (v : Value) (xT : TypeId) (w : World) : (Instr.typeAssert (.iface 96 v) xT 143 true).run Tryz.prog w = .ok (.tuple #[.nilIface, .bool false]) w := run_typeAssert_lacksB Tryz.underlying143 (by kernel_rfl) (by kernel_rfl) v xT w
theorem noUnwNo (v : Value) (xT : TypeId) (w : World) : (Instr.typeAssert (.iface 42 v) xT 146 true).run Tryz.prog w = .ok (.tuple #[.nilIface, .bool false]) w := run_typeAssert_lacksB Tryz.underlying146 (by kernel_rfl) (by kernel_rfl) v xT w
theorem noUnwsNo (v : Value) (xT : TypeId) (w : World) : (Instr.typeAssert (.iface 42 v) xT 148 true).run Tryz.prog w = .ok (.tuple #[.nilIface, .bool false]) w := run_typeAssert_lacksB Tryz.underlying148 (by kernel_rfl) (by kernel_rfl) v xT w
theorem unwFa (v : Value) (xT : TypeId) (w : World) : (Instr.typeAssert (.iface 96 v) xT 146 true).run Tryz.prog w = .ok (.tuple #[.iface 96 v, .bool true]) w := run_typeAssert_hasB Tryz.underlying146 (by kernel_rfl) v xT w
theorem eqlNo (a b : Int) (w : World) : (binOp .eql 38 (noV a) (noV b)).run Tryz.prog w = .ok (.bool (a == b)) w := by
  unfold noV
  exact Lib.run_eql_iface_int w a b Tryz.underlying38 (by kernel_rfl) Tryz.underlying42
theorem eqlFa (v : Value) (b : Int) (w : World) : (binOp .eql 38 (.iface 96 v) (noV b)).run Tryz.prog w = .ok (.bool false) w := by
  unfold noV
  exact run_eql_iface_types _ _ _ _ Tryz.underlying38 (by decide) w
end Go.Proofs.YtelindgnkpfkiaaGreatDoor
