/-
  Words of 32 bits, and their turning. Conditions: none beyond each theorem's own.
-/
import Derived.Test.YtfkcldaogfengaaBase
import Derived.BigQuiet
import Derived.Deep.QuietTactic
import Derived.Deep.LoopGhost
import Derived.Deep.DeepCutAuto
namespace Go.Proofs.Ytfkcldaogfengaa
open Go.RowKit Go.BigFrame
set_option linter.unusedVariables false
set_option linter.unusedSimpArgs false

abbrev W32 := BitVec 32
theorem ofInt_nat (x : W32) : BitVec.ofInt 32 (x.toNat : Int) = x := by
  rw [BitVec.ofInt_natCast]; simp
theorem bv_xor (x y : W32) : bits .xor .u32 (x.toNat : Int) (y.toNat : Int) = ((x ^^^ y).toNat : Int) := by
  show IntKind.u32.wrap ((BitVec.ofInt 32 (x.toNat : Int) ^^^ BitVec.ofInt 32 (y.toNat : Int)).toNat : Int) = _
  rw [ofInt_nat, ofInt_nat, IntKind.wrap_u32]
  have := (x ^^^ y).isLt
  omega
theorem bv_and (x y : W32) : bits .and .u32 (x.toNat : Int) (y.toNat : Int) = ((x &&& y).toNat : Int) := by
  show IntKind.u32.wrap ((BitVec.ofInt 32 (x.toNat : Int) &&& BitVec.ofInt 32 (y.toNat : Int)).toNat : Int) = _
  rw [ofInt_nat, ofInt_nat, IntKind.wrap_u32]
  have := (x &&& y).isLt
  omega
theorem bv_or (x y : W32) : bits .or .u32 (x.toNat : Int) (y.toNat : Int) = ((x ||| y).toNat : Int) := by
  show IntKind.u32.wrap ((BitVec.ofInt 32 (x.toNat : Int) ||| BitVec.ofInt 32 (y.toNat : Int)).toNat : Int) = _
  rw [ofInt_nat, ofInt_nat, IntKind.wrap_u32]
  have := (x ||| y).isLt
  omega
theorem bv_add (x y : W32) : ((x.toNat : Int) + (y.toNat : Int)) % 4294967296 = ((x + y).toNat : Int) := by
  rw [BitVec.toNat_add]; omega
theorem bv_shr (x : W32) (n : Nat) : (x.toNat : Int) / 2 ^ n = ((x >>> n).toNat : Int) := by
  rw [BitVec.toNat_ushiftRight, Nat.shiftRight_eq_div_pow]; simp
theorem bv_lt (x : W32) : x.toNat < 4294967296 := x.isLt

theorem bv_shl (x : W32) (n : Nat) : (x.toNat : Int) * 2 ^ n % 4294967296 = ((x <<< n).toNat : Int) := by
  rw [BitVec.toNat_shiftLeft, Nat.shiftLeft_eq]
  have h : ((x.toNat * 2 ^ n : Nat) : Int) = (x.toNat : Int) * 2 ^ n := by simp
  rw [← h]
  omega
theorem rot_eq (x : W32) (n : Nat) (hn : 0 < n ∧ n < 32) : x >>> n ||| x <<< (32 - n) = x.rotateRight n := by
  rw [BitVec.rotateRight_def]
  have : n % 32 = n := Nat.mod_eq_of_lt hn.2
  rw [this]
theorem neg_and : ∀ n : Fin 32, 0 < n.val → bits .and .u64 (IntKind.u64.wrap (-(n.val : Int))) 31 = ((32 - n.val : Nat) : Int) := by decide

/-- A word as a number: nothing looks into it. -/
def nv (x : W32) : Int := (x.toNat : Int)
theorem nv_range (x : W32) : 0 ≤ nv x ∧ nv x ≤ 4294967295 := by have := bv_lt x; unfold nv; omega
@[go_sem] theorem nv_xor (x y : W32) : bits .xor .u32 (nv x) (nv y) = nv (x ^^^ y) := bv_xor x y
@[go_sem] theorem nv_and (x y : W32) : bits .and .u32 (nv x) (nv y) = nv (x &&& y) := bv_and x y
@[go_sem] theorem nv_or (x y : W32) : bits .or .u32 (nv x) (nv y) = nv (x ||| y) := bv_or x y
@[go_sem] theorem nv_add (x y : W32) : (nv x + nv y) % 4294967296 = nv (x + y) := bv_add x y
theorem nv_add3 (x y z : W32) : (nv x + nv y + nv z) % 4294967296 = nv (x + y + z) := by
  rw [← nv_add (x + y) z, ← nv_add x y, Int.emod_add_emod]
theorem nv_add4 (x y z u : W32) : (nv x + nv y + nv z + nv u) % 4294967296 = nv (x + y + z + u) := by
  rw [← nv_add (x + y + z) u, ← nv_add3 x y z, Int.emod_add_emod]
theorem nv_add5 (x y z u v : W32) : (nv x + nv y + nv z + nv u + nv v) % 4294967296 = nv (x + y + z + u + v) := by
  rw [← nv_add (x + y + z + u) v, ← nv_add4 x y z u, Int.emod_add_emod]
theorem nv_addr (d x y z u : W32) : (nv d + (nv x + nv y + nv z + nv u)) % 4294967296 = nv (d + (x + y + z + u)) := by
  rw [← nv_add d (x + y + z + u), ← nv_add4 x y z u, Int.add_emod_emod]
theorem nv_add' (x y : W32) : IntKind.u32.wrap (nv x + nv y) = nv (x + y) := by rw [IntKind.wrap_u32]; exact bv_add x y
theorem nv_shr (x : W32) (n : Nat) : nv x / 2 ^ n = nv (x >>> n) := bv_shr x n
theorem nv_shl (x : W32) (n : Nat) : nv x * 2 ^ n % 4294967296 = nv (x <<< n) := bv_shl x n
theorem bv_not (x : W32) : bits .xor .u32 4294967295 (nv x) = nv (~~~x) := by
  have h : ((4294967295 : W32).toNat : Int) = 4294967295 := by decide
  have := bv_xor 4294967295 x
  rw [h] at this
  unfold nv
  rw [this]
  congr 2
/-- A word as a value. -/
def wv (x : W32) : Value := .int .u32 (nv x)

set_option maxRecDepth 100000 in
set_option maxHeartbeats 1000000 in
theorem rright_any (x : W32) (n : Nat) (hn : 0 < n ∧ n < 32) (w : World) : Calls Try.prog 89 #[.int .u32 (nv x), .int .u64 n] w fun e w' => e = .returned (.int .u32 (nv (x.rotateRight n))) ∧ w = w' := by
  have hx := nv_range x
  go_enter Try.func89, Try.ntmps89
  go_wp2
  go_ret
  refine ⟨ret_int ?_, rfl⟩
  rw [nv_shr, nv_shl, nv_or, rot_eq x n hn]
end Go.Proofs.Ytfkcldaogfengaa
