/-
  A byte and what is laid over it. Conditions: none.
-/
import Derived.Test.YtaooibocknemkaaQ1RecBack
namespace Go.Proofs.Ytaooibocknemkaa
open Go.RowKit
set_option linter.unusedVariables false
theorem xor8_all : ∀ x : Fin 256, ∀ t : Fin 256, 0 ≤ bits .xor .u8 (x.val : Int) (t.val : Int) ∧ bits .xor .u8 (x.val : Int) (t.val : Int) < 256 ∧ (t.val ≠ 0 → bits .xor .u8 (x.val : Int) (t.val : Int) ≠ x.val) := by decide +kernel
theorem xor8 (x : UInt8) (t : Nat) (ht : t < 256) : ∃ y : UInt8, bits .xor .u8 (x.toNat : Int) (t : Int) = (y.toNat : Int) ∧ (t ≠ 0 → x ≠ y) := by
  obtain ⟨h1, h2, h3⟩ := xor8_all ⟨x.toNat, x.toNat_lt⟩ ⟨t, ht⟩
  dsimp only at h1 h2 h3
  refine ⟨UInt8.ofNat (bits .xor .u8 (x.toNat : Int) (t : Int)).toNat, ?_, fun h e => ?_⟩
  · rw [UInt8.toNat_ofNat']
    have : (bits .xor .u8 (x.toNat : Int) (t : Int)).toNat % 256 = (bits .xor .u8 (x.toNat : Int) (t : Int)).toNat := Nat.mod_eq_of_lt (by omega)
    omega
  · refine h3 h ?_
    have h4 := congrArg UInt8.toNat e
    rw [UInt8.toNat_ofNat'] at h4
    have : (bits .xor .u8 (x.toNat : Int) (t : Int)).toNat % 256 = (bits .xor .u8 (x.toNat : Int) (t : Int)).toNat := Nat.mod_eq_of_lt (by omega)
    omega
end Go.Proofs.Ytaooibocknemkaa
