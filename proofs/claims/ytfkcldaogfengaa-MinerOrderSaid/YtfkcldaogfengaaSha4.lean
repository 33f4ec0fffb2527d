/-
  SHA-256: numbers as bytes, the highest first. Conditions: none beyond each theorem's own.
-/
import Derived.Test.YtfkcldaogfengaaSha3
import Derived.Laws.OwnMore
namespace Go.Proofs.Ytfkcldaogfengaa
open Go.RowKit Go.BigFrame
set_option linter.unusedVariables false
set_option linter.unusedSimpArgs false

/-- The lowest so many bytes of a number, the highest first. -/
def beL (n : Nat) : Nat → List UInt8
  | 0 => []
  | i + 1 => UInt8.ofNat (n / 256 ^ i) :: beL n i
theorem beL_len (n k : Nat) : (beL n k).length = k := by induction k with | zero => rfl | succ k ih => simp [beL, ih]

theorem info_u8b : (Try.prog.info? 5).map (fun i => (i.zero, i.size, i.bytes)) = some (some (.int .u8 0), 1, 1) := by kernel_rfl
theorem made_bytes (k : Nat) : (madeCells (Value.int .u8 0).cells (k * 1)).toList = bytesOf (List.replicate k 0) := by
  apply List.ext_getElem
  · simp [madeCells, bytesOf]
  · intro i h1 h2
    simp [madeCells, bytesOf, Value.cells, Nat.mod_one]
theorem bytesOf_set (l : List UInt8) (i : Nat) (b : UInt8) : (bytesOf l).set i (.int .u8 b.toNat) = bytesOf (l.set i b) := by simp [bytesOf, List.map_set]
theorem be_step (n k j : Nat) (h : j < k) : (List.replicate (k - j) (0 : UInt8) ++ beL n j).set (k - 1 - j) (UInt8.ofNat (n / 256 ^ j)) = List.replicate (k - (j + 1)) 0 ++ beL n (j + 1) := by
  obtain ⟨m, rfl⟩ : ∃ m, k = j + 1 + m := ⟨k - (j + 1), by omega⟩
  rw [show j + 1 + m - j = m + 1 by omega, show j + 1 + m - 1 - j = m by omega, show j + 1 + m - (j + 1) = m by omega]
  rw [List.replicate_succ', List.append_assoc, List.set_append_right _ _ (by simp)]
  simp [beL]

end Go.Proofs.Ytfkcldaogfengaa
