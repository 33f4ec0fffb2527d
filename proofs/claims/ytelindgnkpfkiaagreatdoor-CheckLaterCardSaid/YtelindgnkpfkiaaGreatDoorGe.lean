/-
  errors.As and errors.Is walked, at a number and at a fault; Code, Place. Conditions: errors.errorType holds the handle of 'error'.
-/
import Derived.Test.YtelindgnkpfkiaaGreatDoorGd
import Derived.Test.YtelindgnkpfkiaaGreatDoorQ5CheckFeesCard
namespace Go.Proofs.YtelindgnkpfkiaaGreatDoor
open Go.RowKit Go.Extern.Stop Go.Stop Go.Extern Go.BigFrame
set_option linter.unusedVariables false
set_option linter.unusedSimpArgs false

theorem unwrap_any {w : World} {b : Nat} {at_ n : Int} (h : FaAt w b at_ n) : Calls Tryz.prog 133 #[.pointer (some ⟨b, 0, none⟩)] w fun e w' => e = .returned (.iface 42 (.int .i64 n)) ∧ w = w' := by
  have c1 : w.cell? ⟨b, 1, none⟩ = some (noV n) := cell_at h
  unfold noV at *
  go_enter Tryz.func133, Tryz.ntmps133
  go_wp2
  go_ret
  exact ⟨rfl, rfl⟩
theorem as_nil (t : Value) (w : World) : Calls Tryz.prog 48 #[.nilIface, t] w fun e w' => e = .returned (.bool false) ∧ w = w' := by
  go_enter Tryz.func48, Tryz.ntmps48
  go_wp2
  go_ret
  exact ⟨rfl, rfl⟩
theorem FaAt.fr {F : List Nat} {w w' : World} {b : Nat} {at_ n : Int} (h : FaAt w b at_ n) (k : Fr F w w') (hb : b ∉ F) : FaAt w' b at_ n := (k.block b (Array.getElem?_eq_some_iff.1 h).1 hb).trans h
/-- The target holds this; all else stands. -/
def AsIs (r : Bool) (t : Nat) (T : TypeId) (v : Value) (w : World) (e : Ending) (w' : World) : Prop := e = .returned (.bool r) ∧ Fr [t] w w' ∧ w'.heap[t]? = some (.cells #[v] T (0, 0))

set_option maxRecDepth 100000 in
set_option maxHeartbeats 8000000 in
theorem asl_nono (n : Int) (a t : Nat) (old tv : Value) (w : World) (ha : w.cell? ⟨a, 0, none⟩ = some (.pointer (some ⟨t, 0, none⟩))) (ht : w.heap[t]? = some (.cells #[old] 42 (0, 0))) :
    Calls Tryz.prog 75 #[.iface 42 (.int .i64 n), tv, .agg #[.pointer (some ⟨2, 119, none⟩), .pointer (some ⟨a, 0, none⟩), .int .u64 150], .iface 141 (.agg #[.pointer (some ⟨2, 42, none⟩)])] w (AsIs true t 42 (.int .i64 n) w) := by
  have h1 := @run_callFunc_extern Tryz.prog 39 _ ReflectliteType.typeOf Tryz.func39 (by kernel_rfl) (by kernel_rfl) (by kernel_rfl) (by kernel_rfl)
  have h2 := @run_callFunc_extern Tryz.prog 135 _ (ReflectliteType.relation "AssignableTo" ReflectliteType.assignableTo) Tryz.func135 (by kernel_rfl) (by kernel_rfl) (by kernel_rfl) (by kernel_rfl)
  have h3 := @run_callFunc_extern Tryz.prog 89 _ (ReflectliteValue.method (ReflectliteValue.valueError "reflectlite.Value.Elem" 0) ReflectliteValue.elem) Tryz.func89 (by kernel_rfl) (by kernel_rfl) (by kernel_rfl) (by kernel_rfl)
  have h4 := @run_callFunc_extern Tryz.prog 90 _ ReflectliteValue.set Tryz.func90 (by kernel_rfl) (by kernel_rfl) (by kernel_rfl) (by kernel_rfl)
  have h5 := @run_callFunc_extern Tryz.prog 72 _ (fun args => ReflectliteValue.unpack (args.getD 0 (.tuple #[]))) Tryz.func72 (by kernel_rfl) (by kernel_rfl) (by kernel_rfl) (by kernel_rfl)
  have mA := rlAss
  have tO := typeOfNo
  have aN := assNN
  have vN := unpNo
  have ht0 : w.cell? ⟨t, 0, none⟩ = some old := cell_at ht
  have hf0 : w.frozen? ⟨t, 0, none⟩ = false := free_at ht
  have hta : t < w.heap.size := (Array.getElem?_eq_some_iff.1 ht).1
  go_enter Tryz.func75, Tryz.ntmps75
  have el := elemVNo ⟨a, 0, none⟩ ⟨t, 0, none⟩ (w.alloc (.cells #[.pointer (some ⟨2, 119, none⟩), .pointer (some ⟨a, 0, none⟩), .int .u64 150] 156)) (cell_over ha _)
  have st := setNo ⟨t, 0, none⟩ ⟨w.heap.size + 1, 0, none⟩ n old ((w.alloc (.cells #[.pointer (some ⟨2, 119, none⟩), .pointer (some ⟨a, 0, none⟩), .int .u64 150] 156)).alloc (.cells #[.int .i64 n] 42))
    (by rw [World.cell?_alloc_at _ _ _ _ (by simp)]; rfl) (cell_over (cell_over ht0 _) _)
    (by rw [World.frozen?_alloc_old _ _ _ (by simp; omega), World.frozen?_alloc_old _ _ _ (Nat.ne_of_lt hta)]; exact hf0)
  go_wp2
  refine wp_loop_rounds 1 ?_
  rw [rounds_succ]
  go_wp2
  go_ret
  exact ⟨rfl, ((Fr.setCell _ _ _ (by simp)).transF (Fr.alloc _ _ _)).transF (Fr.alloc _ _ _), (Below.heap_alloc _ _ _ (by simp; omega)).trans ((Below.heap_alloc _ _ _ (by simpa using hta)).trans (heap_setCell_at (j := 0) ht))⟩
set_option maxRecDepth 100000 in
set_option maxHeartbeats 8000000 in
theorem asl_nofa (n : Int) (a t : Nat) (old tv : Value) (w : World) (ha : w.cell? ⟨a, 0, none⟩ = some (.pointer (some ⟨t, 0, none⟩))) (ht : w.heap[t]? = some (.cells #[old] 96 (0, 0))) :
    Calls Tryz.prog 75 #[.iface 42 (.int .i64 n), tv, .agg #[.pointer (some ⟨2, 120, none⟩), .pointer (some ⟨a, 0, none⟩), .int .u64 150], .iface 141 (.agg #[.pointer (some ⟨2, 96, none⟩)])] w (AsIs false t 96 (old) w) := by
  have h1 := @run_callFunc_extern Tryz.prog 39 _ ReflectliteType.typeOf Tryz.func39 (by kernel_rfl) (by kernel_rfl) (by kernel_rfl) (by kernel_rfl)
  have h2 := @run_callFunc_extern Tryz.prog 135 _ (ReflectliteType.relation "AssignableTo" ReflectliteType.assignableTo) Tryz.func135 (by kernel_rfl) (by kernel_rfl) (by kernel_rfl) (by kernel_rfl)
  have h3 := @run_callFunc_extern Tryz.prog 89 _ (ReflectliteValue.method (ReflectliteValue.valueError "reflectlite.Value.Elem" 0) ReflectliteValue.elem) Tryz.func89 (by kernel_rfl) (by kernel_rfl) (by kernel_rfl) (by kernel_rfl)
  have h4 := @run_callFunc_extern Tryz.prog 90 _ ReflectliteValue.set Tryz.func90 (by kernel_rfl) (by kernel_rfl) (by kernel_rfl) (by kernel_rfl)
  have h5 := @run_callFunc_extern Tryz.prog 72 _ (fun args => ReflectliteValue.unpack (args.getD 0 (.tuple #[]))) Tryz.func72 (by kernel_rfl) (by kernel_rfl) (by kernel_rfl) (by kernel_rfl)
  have mA := rlAss
  have tO := typeOfNo
  have aN := assNF
  have nA := noAsNo
  have nU := noUnwNo
  have nW := noUnwsNo
  have ht0 : w.cell? ⟨t, 0, none⟩ = some old := cell_at ht
  have hf0 : w.frozen? ⟨t, 0, none⟩ = false := free_at ht
  have hta : t < w.heap.size := (Array.getElem?_eq_some_iff.1 ht).1
  go_enter Tryz.func75, Tryz.ntmps75
  go_wp2
  refine wp_loop_rounds 1 ?_
  rw [rounds_succ]
  go_wp2
  go_ret
  exact ⟨rfl, Fr.alloc _ _ _, (Below.heap_alloc _ _ _ hta).trans ht⟩
set_option maxRecDepth 100000 in
set_option maxHeartbeats 8000000 in
theorem asl_fano (b : Nat) (at_ n : Int) (a t : Nat) (old tv : Value) (w : World) (hfa : FaAt w b at_ n) (hbt : b ≠ t) (ha : w.cell? ⟨a, 0, none⟩ = some (.pointer (some ⟨t, 0, none⟩))) (ht : w.heap[t]? = some (.cells #[old] 42 (0, 0))) :
    Calls Tryz.prog 75 #[.iface 96 (.pointer (some ⟨b, 0, none⟩)), tv, .agg #[.pointer (some ⟨2, 119, none⟩), .pointer (some ⟨a, 0, none⟩), .int .u64 150], .iface 141 (.agg #[.pointer (some ⟨2, 42, none⟩)])] w (AsIs true t 42 (.int .i64 n) w) := by
  have h1 := @run_callFunc_extern Tryz.prog 39 _ ReflectliteType.typeOf Tryz.func39 (by kernel_rfl) (by kernel_rfl) (by kernel_rfl) (by kernel_rfl)
  have h2 := @run_callFunc_extern Tryz.prog 135 _ (ReflectliteType.relation "AssignableTo" ReflectliteType.assignableTo) Tryz.func135 (by kernel_rfl) (by kernel_rfl) (by kernel_rfl) (by kernel_rfl)
  have h3 := @run_callFunc_extern Tryz.prog 89 _ (ReflectliteValue.method (ReflectliteValue.valueError "reflectlite.Value.Elem" 0) ReflectliteValue.elem) Tryz.func89 (by kernel_rfl) (by kernel_rfl) (by kernel_rfl) (by kernel_rfl)
  have h4 := @run_callFunc_extern Tryz.prog 90 _ ReflectliteValue.set Tryz.func90 (by kernel_rfl) (by kernel_rfl) (by kernel_rfl) (by kernel_rfl)
  have h5 := @run_callFunc_extern Tryz.prog 72 _ (fun args => ReflectliteValue.unpack (args.getD 0 (.tuple #[]))) Tryz.func72 (by kernel_rfl) (by kernel_rfl) (by kernel_rfl) (by kernel_rfl)
  have mA := rlAss
  have tO := typeOfFa
  have aN := assFN
  have tO2 := typeOfNo
  have aN2 := assNN
  have vN := unpNo
  have nA := noAsFa
  have nU := unwFa
  have mU := faUnwrap
  have ht0 : w.cell? ⟨t, 0, none⟩ = some old := cell_at ht
  have hf0 : w.frozen? ⟨t, 0, none⟩ = false := free_at ht
  have hta : t < w.heap.size := (Array.getElem?_eq_some_iff.1 ht).1
  have HFA := Lib.hid hfa
  have HBT := Lib.hid hbt
  clear hfa hbt
  go_enter Tryz.func75, Tryz.ntmps75
  have el := elemVNo ⟨a, 0, none⟩ ⟨t, 0, none⟩ (w.alloc (.cells #[.pointer (some ⟨2, 119, none⟩), .pointer (some ⟨a, 0, none⟩), .int .u64 150] 156)) (cell_over ha _)
  have st := setNo ⟨t, 0, none⟩ ⟨w.heap.size + 1, 0, none⟩ n old ((w.alloc (.cells #[.pointer (some ⟨2, 119, none⟩), .pointer (some ⟨a, 0, none⟩), .int .u64 150] 156)).alloc (.cells #[.int .i64 n] 42))
    (by rw [World.cell?_alloc_at _ _ _ _ (by simp)]; rfl) (cell_over (cell_over ht0 _) _)
    (by rw [World.frozen?_alloc_old _ _ _ (by simp; omega), World.frozen?_alloc_old _ _ _ (Nat.ne_of_lt hta)]; exact hf0)
  go_wp2
  refine wp_loop_rounds 2 ?_
  rw [rounds_succ]
  go_wp2_with fail
  refine (unwrap_any (HFA.out.fr (Fr.alloc [] w _) (by simp))).mono ?_
  rintro e w' ⟨rfl, rfl⟩
  go_wp2_with fail
  rw [rounds_succ]
  go_wp2
  go_ret
  exact ⟨rfl, ((Fr.setCell _ _ _ (by simp)).transF (Fr.alloc _ _ _)).transF (Fr.alloc _ _ _), (Below.heap_alloc _ _ _ (by simp; omega)).trans ((Below.heap_alloc _ _ _ (by simpa using hta)).trans (heap_setCell_at (j := 0) ht))⟩
set_option maxRecDepth 100000 in
set_option maxHeartbeats 8000000 in
theorem asl_fafa (b : Nat) (at_ n : Int) (a t : Nat) (old tv : Value) (w : World) (hfa : FaAt w b at_ n) (hbt : b ≠ t) (ha : w.cell? ⟨a, 0, none⟩ = some (.pointer (some ⟨t, 0, none⟩))) (ht : w.heap[t]? = some (.cells #[old] 96 (0, 0))) :
    Calls Tryz.prog 75 #[.iface 96 (.pointer (some ⟨b, 0, none⟩)), tv, .agg #[.pointer (some ⟨2, 120, none⟩), .pointer (some ⟨a, 0, none⟩), .int .u64 150], .iface 141 (.agg #[.pointer (some ⟨2, 96, none⟩)])] w (AsIs true t 96 (.pointer (some ⟨b, 0, none⟩)) w) := by
  have h1 := @run_callFunc_extern Tryz.prog 39 _ ReflectliteType.typeOf Tryz.func39 (by kernel_rfl) (by kernel_rfl) (by kernel_rfl) (by kernel_rfl)
  have h2 := @run_callFunc_extern Tryz.prog 135 _ (ReflectliteType.relation "AssignableTo" ReflectliteType.assignableTo) Tryz.func135 (by kernel_rfl) (by kernel_rfl) (by kernel_rfl) (by kernel_rfl)
  have h3 := @run_callFunc_extern Tryz.prog 89 _ (ReflectliteValue.method (ReflectliteValue.valueError "reflectlite.Value.Elem" 0) ReflectliteValue.elem) Tryz.func89 (by kernel_rfl) (by kernel_rfl) (by kernel_rfl) (by kernel_rfl)
  have h4 := @run_callFunc_extern Tryz.prog 90 _ ReflectliteValue.set Tryz.func90 (by kernel_rfl) (by kernel_rfl) (by kernel_rfl) (by kernel_rfl)
  have h5 := @run_callFunc_extern Tryz.prog 72 _ (fun args => ReflectliteValue.unpack (args.getD 0 (.tuple #[]))) Tryz.func72 (by kernel_rfl) (by kernel_rfl) (by kernel_rfl) (by kernel_rfl)
  have mA := rlAss
  have tO := typeOfFa
  have aN := assFF
  have vN := unpFa
  have ht0 : w.cell? ⟨t, 0, none⟩ = some old := cell_at ht
  have hf0 : w.frozen? ⟨t, 0, none⟩ = false := free_at ht
  have hta : t < w.heap.size := (Array.getElem?_eq_some_iff.1 ht).1
  go_enter Tryz.func75, Tryz.ntmps75
  have el := elemVFa ⟨a, 0, none⟩ ⟨t, 0, none⟩ (w.alloc (.cells #[.pointer (some ⟨2, 120, none⟩), .pointer (some ⟨a, 0, none⟩), .int .u64 150] 156)) (cell_over ha _)
  have st := setFa ⟨t, 0, none⟩ ⟨w.heap.size + 1, 0, none⟩ ⟨b, 0, none⟩ old ((w.alloc (.cells #[.pointer (some ⟨2, 120, none⟩), .pointer (some ⟨a, 0, none⟩), .int .u64 150] 156)).alloc (.cells #[.pointer (some ⟨b, 0, none⟩)] 96))
    (by rw [World.cell?_alloc_at _ _ _ _ (by simp)]; rfl) (cell_over (cell_over ht0 _) _)
    (by rw [World.frozen?_alloc_old _ _ _ (by simp; omega), World.frozen?_alloc_old _ _ _ (Nat.ne_of_lt hta)]; exact hf0)
  go_wp2
  refine wp_loop_rounds 1 ?_
  rw [rounds_succ]
  go_wp2
  go_ret
  exact ⟨rfl, ((Fr.setCell _ _ _ (by simp)).transF (Fr.alloc _ _ _)).transF (Fr.alloc _ _ _), (Below.heap_alloc _ _ _ (by simp; omega)).trans ((Below.heap_alloc _ _ _ (by simpa using hta)).trans (heap_setCell_at (j := 0) ht))⟩
set_option maxRecDepth 100000 in
set_option maxHeartbeats 8000000 in
theorem as_nono (n : Int) (t : Nat) (old : Value) (w : World) (hg : HdAt w) (ht : w.heap[t]? = some (.cells #[old] 42 (0, 0))) :
    Calls Tryz.prog 48 #[.iface 42 (.int .i64 n), .iface 119 (.pointer (some ⟨t, 0, none⟩))] w (AsIs true t 42 (.int .i64 n) w) := by
  have h5 := @run_callFunc_extern Tryz.prog 72 _ (fun args => ReflectliteValue.unpack (args.getD 0 (.tuple #[]))) Tryz.func72 (by kernel_rfl) (by kernel_rfl) (by kernel_rfl) (by kernel_rfl)
  have h6 := @run_callFunc_extern Tryz.prog 73 _ (ReflectliteValue.methodAny (ReflectliteValue.valueError "reflectlite.Value.Type" 0) (fun t _ _ _ => ReflectliteType.toType t)) Tryz.func73 (by kernel_rfl) (by kernel_rfl) (by kernel_rfl) (by kernel_rfl)
  have h7 := @run_callFunc_extern Tryz.prog 74 _ (ReflectliteValue.method (ReflectliteValue.valueError "reflectlite.Value.IsNil" 0) ReflectliteValue.isNil) Tryz.func74 (by kernel_rfl) (by kernel_rfl) (by kernel_rfl) (by kernel_rfl)
  have h8 := @run_callFunc_extern Tryz.prog 128 _ (ReflectliteType.abiMethod fun t => do pure (.int .u8 (← Rtype.kind t))) Tryz.func128 (by kernel_rfl) (by kernel_rfl) (by kernel_rfl) (by kernel_rfl)
  have h9 := @run_callFunc_extern Tryz.prog 137 _ (ReflectliteType.method ReflectliteType.elem) Tryz.func137 (by kernel_rfl) (by kernel_rfl) (by kernel_rfl) (by kernel_rfl)
  have h10 := @run_callFunc_extern Tryz.prog 138 _ (ReflectliteType.relation "Implements" ReflectliteType.implements_) Tryz.func138 (by kernel_rfl) (by kernel_rfl) (by kernel_rfl) (by kernel_rfl)
  have f5 := unpPNo
  have f6 := rlTypeNo
  have mK := rlKind
  have mE := rlElem
  have mI := rlImpl
  have k1 := kindPNo
  have k2 := kindNo
  have e1 := elemNo
  have i1 := implNo
  have n8 := isNilNo ⟨w.heap.size, 0, none⟩ ⟨t, 0, none⟩ ((w.alloc (.cells #[.pointer (some ⟨t, 0, none⟩)] 119)).alloc (.cells #[.pointer (some ⟨2, 119, none⟩), .pointer (some ⟨w.heap.size, 0, none⟩), .int .u64 150] 156)) (by simp)
  have hta : t < w.heap.size := (Array.getElem?_eq_some_iff.1 ht).1
  have hg2 : ((w.alloc (.cells #[.pointer (some ⟨t, 0, none⟩)] 119)).alloc (.cells #[.pointer (some ⟨2, 119, none⟩), .pointer (some ⟨w.heap.size, 0, none⟩), .int .u64 150] 156)).cell? ⟨0, 0, none⟩ = some (.iface 141 (.agg #[.pointer (some ⟨2, 38, none⟩)])) := cell_over (cell_over hg _) _
  have HW := Lib.hid (fun (tv : Value) => asl_nono n w.heap.size t old tv ((w.alloc (.cells #[.pointer (some ⟨t, 0, none⟩)] 119)).alloc (.cells #[.pointer (some ⟨2, 119, none⟩), .pointer (some ⟨w.heap.size, 0, none⟩), .int .u64 150] 156)) (by simp) ((Below.heap_alloc _ _ _ (by simp; omega)).trans ((Below.heap_alloc _ _ _ hta).trans ht)))
  have HT := Lib.hid hta
  go_enter Tryz.func48, Tryz.ntmps48
  go_wp2_with fail
  refine (HW.out _).mono ?_
  rintro e w' ⟨rfl, hf, hz⟩
  have HF := Lib.hid ((((Fr.alloc [t] w _).transF (Fr.alloc _ _ _)).transF hf))
  have HZ := Lib.hid hz
  clear hf hz
  go_wp2_with fail
  go_ret
  exact ⟨rfl, HF.out, HZ.out⟩
set_option maxRecDepth 100000 in
set_option maxHeartbeats 8000000 in
theorem as_nofa (n : Int) (t : Nat) (old : Value) (w : World) (hg : HdAt w) (ht : w.heap[t]? = some (.cells #[old] 96 (0, 0))) :
    Calls Tryz.prog 48 #[.iface 42 (.int .i64 n), .iface 120 (.pointer (some ⟨t, 0, none⟩))] w (AsIs false t 96 (old) w) := by
  have h5 := @run_callFunc_extern Tryz.prog 72 _ (fun args => ReflectliteValue.unpack (args.getD 0 (.tuple #[]))) Tryz.func72 (by kernel_rfl) (by kernel_rfl) (by kernel_rfl) (by kernel_rfl)
  have h6 := @run_callFunc_extern Tryz.prog 73 _ (ReflectliteValue.methodAny (ReflectliteValue.valueError "reflectlite.Value.Type" 0) (fun t _ _ _ => ReflectliteType.toType t)) Tryz.func73 (by kernel_rfl) (by kernel_rfl) (by kernel_rfl) (by kernel_rfl)
  have h7 := @run_callFunc_extern Tryz.prog 74 _ (ReflectliteValue.method (ReflectliteValue.valueError "reflectlite.Value.IsNil" 0) ReflectliteValue.isNil) Tryz.func74 (by kernel_rfl) (by kernel_rfl) (by kernel_rfl) (by kernel_rfl)
  have h8 := @run_callFunc_extern Tryz.prog 128 _ (ReflectliteType.abiMethod fun t => do pure (.int .u8 (← Rtype.kind t))) Tryz.func128 (by kernel_rfl) (by kernel_rfl) (by kernel_rfl) (by kernel_rfl)
  have h9 := @run_callFunc_extern Tryz.prog 137 _ (ReflectliteType.method ReflectliteType.elem) Tryz.func137 (by kernel_rfl) (by kernel_rfl) (by kernel_rfl) (by kernel_rfl)
  have h10 := @run_callFunc_extern Tryz.prog 138 _ (ReflectliteType.relation "Implements" ReflectliteType.implements_) Tryz.func138 (by kernel_rfl) (by kernel_rfl) (by kernel_rfl) (by kernel_rfl)
  have f5 := unpPFa
  have f6 := rlTypeFa
  have mK := rlKind
  have mE := rlElem
  have mI := rlImpl
  have k1 := kindPFa
  have k2 := kindFa
  have e1 := elemFa
  have i1 := implFa
  have n8 := isNilFa ⟨w.heap.size, 0, none⟩ ⟨t, 0, none⟩ ((w.alloc (.cells #[.pointer (some ⟨t, 0, none⟩)] 120)).alloc (.cells #[.pointer (some ⟨2, 120, none⟩), .pointer (some ⟨w.heap.size, 0, none⟩), .int .u64 150] 156)) (by simp)
  have hta : t < w.heap.size := (Array.getElem?_eq_some_iff.1 ht).1
  have hg2 : ((w.alloc (.cells #[.pointer (some ⟨t, 0, none⟩)] 120)).alloc (.cells #[.pointer (some ⟨2, 120, none⟩), .pointer (some ⟨w.heap.size, 0, none⟩), .int .u64 150] 156)).cell? ⟨0, 0, none⟩ = some (.iface 141 (.agg #[.pointer (some ⟨2, 38, none⟩)])) := cell_over (cell_over hg _) _
  have HW := Lib.hid (fun (tv : Value) => asl_nofa n w.heap.size t old tv ((w.alloc (.cells #[.pointer (some ⟨t, 0, none⟩)] 120)).alloc (.cells #[.pointer (some ⟨2, 120, none⟩), .pointer (some ⟨w.heap.size, 0, none⟩), .int .u64 150] 156)) (by simp) ((Below.heap_alloc _ _ _ (by simp; omega)).trans ((Below.heap_alloc _ _ _ hta).trans ht)))
  have HT := Lib.hid hta
  go_enter Tryz.func48, Tryz.ntmps48
  go_wp2_with fail
  refine (HW.out _).mono ?_
  rintro e w' ⟨rfl, hf, hz⟩
  have HF := Lib.hid ((((Fr.alloc [t] w _).transF (Fr.alloc _ _ _)).transF hf))
  have HZ := Lib.hid hz
  clear hf hz
  go_wp2_with fail
  go_ret
  exact ⟨rfl, HF.out, HZ.out⟩
set_option maxRecDepth 100000 in
set_option maxHeartbeats 8000000 in
theorem as_fano (b : Nat) (at_ n : Int) (t : Nat) (old : Value) (w : World) (hg : HdAt w) (hfa : FaAt w b at_ n) (hbt : b ≠ t) (ht : w.heap[t]? = some (.cells #[old] 42 (0, 0))) :
    Calls Tryz.prog 48 #[.iface 96 (.pointer (some ⟨b, 0, none⟩)), .iface 119 (.pointer (some ⟨t, 0, none⟩))] w (AsIs true t 42 (.int .i64 n) w) := by
  have h5 := @run_callFunc_extern Tryz.prog 72 _ (fun args => ReflectliteValue.unpack (args.getD 0 (.tuple #[]))) Tryz.func72 (by kernel_rfl) (by kernel_rfl) (by kernel_rfl) (by kernel_rfl)
  have h6 := @run_callFunc_extern Tryz.prog 73 _ (ReflectliteValue.methodAny (ReflectliteValue.valueError "reflectlite.Value.Type" 0) (fun t _ _ _ => ReflectliteType.toType t)) Tryz.func73 (by kernel_rfl) (by kernel_rfl) (by kernel_rfl) (by kernel_rfl)
  have h7 := @run_callFunc_extern Tryz.prog 74 _ (ReflectliteValue.method (ReflectliteValue.valueError "reflectlite.Value.IsNil" 0) ReflectliteValue.isNil) Tryz.func74 (by kernel_rfl) (by kernel_rfl) (by kernel_rfl) (by kernel_rfl)
  have h8 := @run_callFunc_extern Tryz.prog 128 _ (ReflectliteType.abiMethod fun t => do pure (.int .u8 (← Rtype.kind t))) Tryz.func128 (by kernel_rfl) (by kernel_rfl) (by kernel_rfl) (by kernel_rfl)
  have h9 := @run_callFunc_extern Tryz.prog 137 _ (ReflectliteType.method ReflectliteType.elem) Tryz.func137 (by kernel_rfl) (by kernel_rfl) (by kernel_rfl) (by kernel_rfl)
  have h10 := @run_callFunc_extern Tryz.prog 138 _ (ReflectliteType.relation "Implements" ReflectliteType.implements_) Tryz.func138 (by kernel_rfl) (by kernel_rfl) (by kernel_rfl) (by kernel_rfl)
  have f5 := unpPNo
  have f6 := rlTypeNo
  have mK := rlKind
  have mE := rlElem
  have mI := rlImpl
  have k1 := kindPNo
  have k2 := kindNo
  have e1 := elemNo
  have i1 := implNo
  have n8 := isNilNo ⟨w.heap.size, 0, none⟩ ⟨t, 0, none⟩ ((w.alloc (.cells #[.pointer (some ⟨t, 0, none⟩)] 119)).alloc (.cells #[.pointer (some ⟨2, 119, none⟩), .pointer (some ⟨w.heap.size, 0, none⟩), .int .u64 150] 156)) (by simp)
  have hta : t < w.heap.size := (Array.getElem?_eq_some_iff.1 ht).1
  have hg2 : ((w.alloc (.cells #[.pointer (some ⟨t, 0, none⟩)] 119)).alloc (.cells #[.pointer (some ⟨2, 119, none⟩), .pointer (some ⟨w.heap.size, 0, none⟩), .int .u64 150] 156)).cell? ⟨0, 0, none⟩ = some (.iface 141 (.agg #[.pointer (some ⟨2, 38, none⟩)])) := cell_over (cell_over hg _) _
  have HW := Lib.hid (fun (tv : Value) => asl_fano b at_ n w.heap.size t old tv ((w.alloc (.cells #[.pointer (some ⟨t, 0, none⟩)] 119)).alloc (.cells #[.pointer (some ⟨2, 119, none⟩), .pointer (some ⟨w.heap.size, 0, none⟩), .int .u64 150] 156)) ((hfa.fr (Fr.alloc [] w _) (by simp)).fr (Fr.alloc [] _ _) (by simp)) hbt (by simp) ((Below.heap_alloc _ _ _ (by simp; omega)).trans ((Below.heap_alloc _ _ _ hta).trans ht)))
  clear hfa hbt
  have HT := Lib.hid hta
  go_enter Tryz.func48, Tryz.ntmps48
  go_wp2_with fail
  refine (HW.out _).mono ?_
  rintro e w' ⟨rfl, hf, hz⟩
  have HF := Lib.hid ((((Fr.alloc [t] w _).transF (Fr.alloc _ _ _)).transF hf))
  have HZ := Lib.hid hz
  clear hf hz
  go_wp2_with fail
  go_ret
  exact ⟨rfl, HF.out, HZ.out⟩
set_option maxRecDepth 100000 in
set_option maxHeartbeats 8000000 in
theorem as_fafa (b : Nat) (at_ n : Int) (t : Nat) (old : Value) (w : World) (hg : HdAt w) (hfa : FaAt w b at_ n) (hbt : b ≠ t) (ht : w.heap[t]? = some (.cells #[old] 96 (0, 0))) :
    Calls Tryz.prog 48 #[.iface 96 (.pointer (some ⟨b, 0, none⟩)), .iface 120 (.pointer (some ⟨t, 0, none⟩))] w (AsIs true t 96 (.pointer (some ⟨b, 0, none⟩)) w) := by
  have h5 := @run_callFunc_extern Tryz.prog 72 _ (fun args => ReflectliteValue.unpack (args.getD 0 (.tuple #[]))) Tryz.func72 (by kernel_rfl) (by kernel_rfl) (by kernel_rfl) (by kernel_rfl)
  have h6 := @run_callFunc_extern Tryz.prog 73 _ (ReflectliteValue.methodAny (ReflectliteValue.valueError "reflectlite.Value.Type" 0) (fun t _ _ _ => ReflectliteType.toType t)) Tryz.func73 (by kernel_rfl) (by kernel_rfl) (by kernel_rfl) (by kernel_rfl)
  have h7 := @run_callFunc_extern Tryz.prog 74 _ (ReflectliteValue.method (ReflectliteValue.valueError "reflectlite.Value.IsNil" 0) ReflectliteValue.isNil) Tryz.func74 (by kernel_rfl) (by kernel_rfl) (by kernel_rfl) (by kernel_rfl)
  have h8 := @run_callFunc_extern Tryz.prog 128 _ (ReflectliteType.abiMethod fun t => do pure (.int .u8 (← Rtype.kind t))) Tryz.func128 (by kernel_rfl) (by kernel_rfl) (by kernel_rfl) (by kernel_rfl)
  have h9 := @run_callFunc_extern Tryz.prog 137 _ (ReflectliteType.method ReflectliteType.elem) Tryz.func137 (by kernel_rfl) (by kernel_rfl) (by kernel_rfl) (by kernel_rfl)
  have h10 := @run_callFunc_extern Tryz.prog 138 _ (ReflectliteType.relation "Implements" ReflectliteType.implements_) Tryz.func138 (by kernel_rfl) (by kernel_rfl) (by kernel_rfl) (by kernel_rfl)
  have f5 := unpPFa
  have f6 := rlTypeFa
  have mK := rlKind
  have mE := rlElem
  have mI := rlImpl
  have k1 := kindPFa
  have k2 := kindFa
  have e1 := elemFa
  have i1 := implFa
  have n8 := isNilFa ⟨w.heap.size, 0, none⟩ ⟨t, 0, none⟩ ((w.alloc (.cells #[.pointer (some ⟨t, 0, none⟩)] 120)).alloc (.cells #[.pointer (some ⟨2, 120, none⟩), .pointer (some ⟨w.heap.size, 0, none⟩), .int .u64 150] 156)) (by simp)
  have hta : t < w.heap.size := (Array.getElem?_eq_some_iff.1 ht).1
  have hg2 : ((w.alloc (.cells #[.pointer (some ⟨t, 0, none⟩)] 120)).alloc (.cells #[.pointer (some ⟨2, 120, none⟩), .pointer (some ⟨w.heap.size, 0, none⟩), .int .u64 150] 156)).cell? ⟨0, 0, none⟩ = some (.iface 141 (.agg #[.pointer (some ⟨2, 38, none⟩)])) := cell_over (cell_over hg _) _
  have HW := Lib.hid (fun (tv : Value) => asl_fafa b at_ n w.heap.size t old tv ((w.alloc (.cells #[.pointer (some ⟨t, 0, none⟩)] 120)).alloc (.cells #[.pointer (some ⟨2, 120, none⟩), .pointer (some ⟨w.heap.size, 0, none⟩), .int .u64 150] 156)) ((hfa.fr (Fr.alloc [] w _) (by simp)).fr (Fr.alloc [] _ _) (by simp)) hbt (by simp) ((Below.heap_alloc _ _ _ (by simp; omega)).trans ((Below.heap_alloc _ _ _ hta).trans ht)))
  clear hfa hbt
  have HT := Lib.hid hta
  go_enter Tryz.func48, Tryz.ntmps48
  go_wp2_with fail
  refine (HW.out _).mono ?_
  rintro e w' ⟨rfl, hf, hz⟩
  have HF := Lib.hid ((((Fr.alloc [t] w _).transF (Fr.alloc _ _ _)).transF hf))
  have HZ := Lib.hid hz
  clear hf hz
  go_wp2_with fail
  go_ret
  exact ⟨rfl, HF.out, HZ.out⟩
end Go.Proofs.YtelindgnkpfkiaaGreatDoor
