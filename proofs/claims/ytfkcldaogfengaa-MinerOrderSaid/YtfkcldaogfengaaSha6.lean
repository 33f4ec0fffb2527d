/-
  SHA-256: a word of four bytes, put together by sums or by shifts. Conditions: those named in each lemma.
-/
import Derived.Test.YtfkcldaogfengaaSha5
namespace Go.Proofs.Ytfkcldaogfengaa
open Go.RowKit
set_option linter.unusedVariables false

theorem shl_or (x y : W32) (hx : x.toNat < 16777216) (hy : y.toNat < 256) : x <<< (8 : Nat) ||| y = x * 256 + y := by
  apply BitVec.eq_of_toNat_eq
  have h1 : (x <<< (8 : Nat)).toNat = x.toNat <<< 8 := by
    rw [BitVec.toNat_shiftLeft, Nat.shiftLeft_eq]
    exact Nat.mod_eq_of_lt (by omega)
  rw [BitVec.toNat_or, h1, ← Nat.shiftLeft_add_eq_or_of_lt (show y.toNat < 2 ^ 8 from hy), Nat.shiftLeft_eq, BitVec.toNat_add, BitVec.toNat_mul]
  have h2 : (256 : W32).toNat = 256 := by decide
  rw [h2]
  omega
theorem toNat_step (x y : W32) (hx : x.toNat < 16777216) (hy : y.toNat < 256) : (x * 256 + y).toNat = x.toNat * 256 + y.toNat := by
  rw [BitVec.toNat_add, BitVec.toNat_mul]
  have h2 : (256 : W32).toNat = 256 := by decide
  rw [h2]
  omega
theorem msg_sum (a b c d : W32) (ha : a.toNat < 256) (hb : b.toNat < 256) (hc : c.toNat < 256) (hd : d.toNat < 256) :
    ((a <<< (8 : Nat) ||| b) <<< (8 : Nat) ||| c) <<< (8 : Nat) ||| d = a * 16777216 + b * 65536 + c * 256 + d := by
  have e1 := toNat_step a b (by omega) hb
  rw [shl_or a b (by omega) hb]
  have e2 := toNat_step (a * 256 + b) c (by omega) hc
  rw [shl_or _ c (by omega) hc, shl_or _ d (by omega) hd]
  clear e1 e2 ha hb hc hd
  rw [show (16777216 : W32) = 256 * 256 * 256 by decide, show (65536 : W32) = 256 * 256 by decide]
  rw [BitVec.add_mul, BitVec.add_mul, BitVec.add_mul]
  simp only [BitVec.mul_assoc]
end Go.Proofs.Ytfkcldaogfengaa
