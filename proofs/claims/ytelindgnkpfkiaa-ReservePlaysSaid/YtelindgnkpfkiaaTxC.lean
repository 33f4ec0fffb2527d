/-
  The base point, and what is one. Conditions: none beyond each theorem's own.
-/
import Derived.Test.YtelindgnkpfkiaaTxB
import Derived.Test.YtelindgnkpfkiaaShelf
namespace Go.Proofs.Ytelindgnkpfkiaa
open Go.RowKit Go.BigFrame
set_option linter.unusedVariables false
set_option linter.unusedSimpArgs false

def zeros32 : ByteArray := ⟨(List.replicate 32 (0 : UInt8)).toArray⟩
theorem zeros32_size : zeros32.size = 32 := by decide
def isBase (id : ByteArray) (idx : Nat) : Bool := decide (id = zeros32) && decide (idx = 4294967295)
theorem zeros_of (s : ByteArray) (hs : s.size = 32) (h : ∀ (j : Nat) (hj : j < s.size), j < 32 → s[j] = 0) : s = zeros32 := by
  apply ByteArray.ext
  apply Array.ext
  · exact hs.trans zeros32_size.symm
  · intro i h1 h2
    have e : s.data[i] = 0 := h i h1 (by have : s.data.size = 32 := hs; omega)
    rw [e]
    simp only [zeros32, List.getElem_toArray, List.getElem_replicate]
theorem zeros_at (j : Nat) (hj : j < zeros32.size) : zeros32[j] = 0 := by
  show zeros32.data[j] = 0
  simp only [zeros32, List.getElem_toArray, List.getElem_replicate]

def ptV (a : ByteArray × Nat) : Value := .agg #[.string a.1, .int .u32 a.2]
theorem guardPt : Try.prog.eqGuardType Try.prog.depth 35 = false := by kernel_rfl
theorem eqIn_pt (a b : ByteArray × Nat) (w : World) : (Op.equalIn 10000 35 (ptV a) (ptV b)).run Try.prog w = .ok (decide (a = b)) w := by
  have hS : Try.prog.underlying 35 = some (.struct (Try.prog.fieldsOf 35)) := by kernel_rfl
  have hp : Try.prog.stoodInHeld 35 = false := by kernel_rfl
  obtain ⟨a1, a2⟩ := a
  obtain ⟨b1, b2⟩ := b
  unfold ptV
  dsimp only
  rw [show (10000 : Nat) = 9999 + 1 from rfl, run_equalIn_agg w 9999 35 _ _ hS hp]
  simp only [Program.fieldsOf, Try.underlying35]
  have u1 := Try.underlying9
  have u2 := Try.underlying33
  go_simp
  rw [ByteArray.toList_eq, ByteArray.toList_eq]
  by_cases h1 : a1 = b1
  · subst h1
    by_cases h2 : a2 = b2 <;> simp [h2]
    omega
  · have : a1.data.toList ≠ b1.data.toList := fun h => h1 (by cases a1; cases b1; simp at h; simp [h])
    simp [h1, this]
theorem eq_pt (a b : ByteArray × Nat) (w : World) : (binOp .eql 35 (ptV a) (ptV b)).run Try.prog w = .ok (.bool (decide (a = b))) w := by
  unfold ptV
  rw [run_eql_struct]
  have := eqIn_pt a b w
  unfold ptV at this
  rw [this]
  rfl
theorem isBase_pt (id : ByteArray) (idx : Nat) : decide ((id, idx) = (zeros32, 4294967295)) = isBase id idx := by
  unfold isBase
  by_cases h1 : id = zeros32 <;> by_cases h2 : idx = 4294967295 <;> simp [h1, h2]
theorem eq_base (id : ByteArray) (idx : Nat) (w : World) : (binOp .eql 35 (.agg #[.string id, .int .u32 idx]) (.agg #[.string zeros32, .int .u32 4294967295])).run Try.prog w = .ok (.bool (isBase id idx)) w := by
  rw [← isBase_pt]
  exact eq_pt (id, idx) (zeros32, 4294967295) w
theorem eqIn_base (id : ByteArray) (idx : Nat) (w : World) : (Op.equalIn 10000 35 (.agg #[.string id, .int .u32 idx]) (.agg #[.string zeros32, .int .u32 4294967295])).run Try.prog w = .ok (isBase id idx) w := by
  rw [← isBase_pt]
  exact eqIn_pt (id, idx) (zeros32, 4294967295) w
end Go.Proofs.Ytelindgnkpfkiaa
