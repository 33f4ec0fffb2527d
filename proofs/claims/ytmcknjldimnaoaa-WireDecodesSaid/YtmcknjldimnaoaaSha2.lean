/-
  SHA-256: one round. Conditions: none beyond each theorem's own.
-/
import Derived.Test.YtmcknjldimnaoaaSha
namespace Go.Proofs.Ytmcknjldimnaoaa
open Go.RowKit Go.BigFrame
set_option linter.unusedVariables false
set_option linter.unusedSimpArgs false

theorem quiet_same {P : Program} {f : FuncId} {args : Array Value} {w : World} {n : Nat} {v : Value}
    (h : Calls P f args (w.drewN n) fun e w' => e = .returned v ∧ w.drewN n = w') : Calls P f args (w.drewN n) fun e w'' => e = .returned v ∧ ∃ m, w'' = w.drewN m :=
  h.mono fun _ _ ⟨he, hm⟩ => ⟨he, n, hm.symm⟩

theorem quiet_same2 {P : Program} {f : FuncId} {args : Array Value} {w : World} {q n : Nat} {v : Value}
    (h : Calls P f args (w.drewN (q + n)) fun e w' => e = .returned v ∧ w.drewN (q + n) = w') : Calls P f args (w.drewN (q + n)) fun e w'' => e = .returned v ∧ ∃ m, w'' = w.drewN (q + m) :=
  h.mono fun _ _ ⟨he, hm⟩ => ⟨he, n, hm.symm⟩

/-- The eight words of a state. -/
structure St where
  a : W32
  b : W32
  c : W32
  d : W32
  e : W32
  f : W32
  g : W32
  h : W32
def St.val (s : St) : Value := .agg #[.int .u32 (nv s.a), .int .u32 (nv s.b), .int .u32 (nv s.c), .int .u32 (nv s.d), .int .u32 (nv s.e), .int .u32 (nv s.f), .int .u32 (nv s.g), .int .u32 (nv s.h)]
def tOf (s : St) (k w : W32) : W32 := s.h + (s.e.rotateRight 6 ^^^ s.e.rotateRight 11 ^^^ s.e.rotateRight 25) + ((s.e &&& s.f) ^^^ (~~~s.e &&& s.g)) + k + w
def uOf (s : St) : W32 := (s.a.rotateRight 2 ^^^ s.a.rotateRight 13 ^^^ s.a.rotateRight 22) + ((s.a &&& s.b) ^^^ (s.a &&& s.c) ^^^ (s.b &&& s.c))
def rnd (s : St) (k w : W32) : St := ⟨tOf s k w + uOf s, s.a, s.b, s.c, s.d + tOf s k w, s.e, s.f, s.g⟩

set_option maxRecDepth 100000 in
set_option maxHeartbeats 2000000 in
theorem round_any (s : St) (k x : W32) (w : World) : Calls Try.prog 93 #[s.val, .int .u32 (nv k), .int .u32 (nv x)] w fun e w' => e = .returned (rnd s k x).val ∧ Below w.heap.size w w' := by
  obtain ⟨a, b, c, d, e, f, g, hh⟩ := s
  unfold St.val
  dsimp only
  have Q6 := Lib.hid (show ∀ w : World, Calls Try.prog 116 #[.int .u32 (nv e), .int .i64 6] w (fun e' w' => e' = .returned (.int .u32 (nv (e.rotateRight 6))) ∧ w = w') from fun w => right_any e 6 (by decide) w)
  have Q11 := Lib.hid (show ∀ w : World, Calls Try.prog 116 #[.int .u32 (nv e), .int .i64 11] w (fun e' w' => e' = .returned (.int .u32 (nv (e.rotateRight 11))) ∧ w = w') from fun w => right_any e 11 (by decide) w)
  have Q25 := Lib.hid (show ∀ w : World, Calls Try.prog 116 #[.int .u32 (nv e), .int .i64 25] w (fun e' w' => e' = .returned (.int .u32 (nv (e.rotateRight 25))) ∧ w = w') from fun w => right_any e 25 (by decide) w)
  have Q2 := Lib.hid (show ∀ w : World, Calls Try.prog 116 #[.int .u32 (nv a), .int .i64 2] w (fun e' w' => e' = .returned (.int .u32 (nv (a.rotateRight 2))) ∧ w = w') from fun w => right_any a 2 (by decide) w)
  have Q13 := Lib.hid (show ∀ w : World, Calls Try.prog 116 #[.int .u32 (nv a), .int .i64 13] w (fun e' w' => e' = .returned (.int .u32 (nv (a.rotateRight 13))) ∧ w = w') from fun w => right_any a 13 (by decide) w)
  have Q22 := Lib.hid (show ∀ w : World, Calls Try.prog 116 #[.int .u32 (nv a), .int .i64 22] w (fun e' w' => e' = .returned (.int .u32 (nv (a.rotateRight 22))) ∧ w = w') from fun w => right_any a 22 (by decide) w)
  have hmx : IntKind.u32.max = 4294967295 := by decide
  have hnot := bv_not e
  go_enter Try.func93, Try.ntmps93
  go_wp2_with fail
  go_quiet (fail)
  go_wp2_with fail
  go_quiet ((first | (go_at_call_of 116 (Value.int IntKind.i64 6); exact quiet_same2 (Q6.out _)) | (go_at_call_of 116 (Value.int IntKind.i64 11); exact quiet_same2 (Q11.out _)) | (go_at_call_of 116 (Value.int IntKind.i64 25); exact quiet_same2 (Q25.out _))))
  go_wp2_with fail
  go_quiet ((first | (go_at_call_of 116 (Value.int IntKind.i64 2); exact quiet_same2 (Q2.out _)) | (go_at_call_of 116 (Value.int IntKind.i64 13); exact quiet_same2 (Q13.out _)) | (go_at_call_of 116 (Value.int IntKind.i64 22); exact quiet_same2 (Q22.out _))))
  go_wp2
  simp only [nv_add5, nv_addr, nv_add4, nv_add3, nv_add]
  refine bodyPost_ret (v := (rnd ⟨a, b, c, d, e, f, g, hh⟩ k x).val) (by simp [results, Try.results93, go_sem, St.val, rnd, tOf, uOf]) rfl ⟨rfl, ?_⟩
  have hb : ∀ (o1 o2 : Obj) (q : Nat), Below w.heap.size w (((w.alloc o1).alloc o2).drewN q) := fun o1 o2 q => (((Below.refl _ _).alloc (Nat.le_refl _) o1).alloc (by simp) o2).trans ⟨rfl, rfl, rfl, Nat.le_refl _, fun _ _ => rfl⟩
  have hs : w.heap.size ≤ w.heap.size + 1 := Nat.le_succ _
  exact ((((((((hb _ _ _).setCell hs _).setCell hs _).setCell hs _).setCell hs _).setCell hs _).setCell hs _).setCell hs _).setCell hs _
end Go.Proofs.Ytmcknjldimnaoaa
