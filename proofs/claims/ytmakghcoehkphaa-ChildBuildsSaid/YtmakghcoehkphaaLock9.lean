/-
  Locks, the ninth part: how long an input waits. Conditions: none beyond each theorem's own.
-/
import Derived.Test.YtmakghcoehkphaaLock8
namespace Go.Proofs.Ytmakghcoehkphaa
open Go.RowKit Go.BigFrame
set_option linter.unusedVariables false

theorem and_u32 (a : Nat) (ha : a < 4294967296) : bits .and .u32 (a : Int) 65535 = ((a % 65536 : Nat) : Int) := by
  have h1 : (BitVec.ofInt 32 (a : Int)).toNat = a := by
    rw [BitVec.ofInt_natCast, BitVec.toNat_ofNat]; exact Nat.mod_eq_of_lt (by omega)
  have h2 : (BitVec.ofInt 32 (65535 : Int)).toNat = 65535 := by decide
  have h3 : a &&& 65535 = a % 65536 := Nat.and_two_pow_sub_one_eq_mod a 16
  show IntKind.u32.wrap ((BitVec.ofInt 32 (a : Int) &&& BitVec.ofInt 32 (65535 : Int)).toNat : Int) = _
  rw [BitVec.toNat_and, h1, h2, h3]
  have : a % 65536 < 65536 := Nat.mod_lt _ (by omega)
  rw [IntKind.wrap_u32]
  omega

theorem waitsOf_at {t : PTx} {i : Nat} {x : PIn} (h : t.ins[i]? = some x) : waitsOf t i = if x.seq < 2147483648 ∧ 2 ≤ t.ver then x.seq % 65536 else 0 := by
  unfold waitsOf; rw [h]

set_option maxRecDepth 100000 in
set_option maxHeartbeats 1000000 in
theorem waits_any (v : Value) (t : PTx) (i : Nat) (w : World) (hv : TxAt w v t) (hi : i < t.ins.length) :
    Calls Try.prog 46 #[v, .int .i64 i] w fun e w' => e = .returned (.int .i64 (waitsOf t i)) ∧ Below w.heap.size w w' := by
  obtain ⟨b, o, n, c, au, nu, cu, x, wv, rfl, hn, hnm, hx, hs, hv1, hv2, -, hc, -⟩ := tx_in hv hi
  rw [waitsOf_at hx]
  obtain ⟨ver, ins, outs, lock⟩ := t
  dsimp only at *
  rw [← hn] at hi
  generalize x.seq = s at *
  have hand := and_u32 s hs
  have hm : s % 65536 < 65536 := Nat.mod_lt _ (by omega)
  generalize s % 65536 = r at *
  have hc' := fun ob => cell_over hc ob
  clear hn hx hv hc hs hv1 hv2
  by_cases h1 : s < 2147483648
  · have hI : ((s : Int) < 2147483648) = True := eq_true (by omega)
    have hJ : ((2147483648 : Int) ≤ (s : Int)) = False := eq_false (by omega)
    by_cases h2 : 2 ≤ ver
    · rw [if_pos ⟨h1, h2⟩]
      clear h1
      go_enter Try.func46, Try.ntmps46
      go_wp2
      go_ret
      exact ⟨ret_int (by omega), (Below.refl _ _).alloc (Nat.le_refl _) _⟩
    · rw [if_neg (fun h => h2 h.2)]
      clear h1
      go_enter Try.func46, Try.ntmps46
      go_wp2
      go_ret
      exact ⟨rfl, (Below.refl _ _).alloc (Nat.le_refl _) _⟩
  · rw [if_neg (fun h => h1 h.1)]
    have hI : ((s : Int) < 2147483648) = False := eq_false (by omega)
    have hJ : ((2147483648 : Int) ≤ (s : Int)) = True := eq_true (by omega)
    clear h1
    go_enter Try.func46, Try.ntmps46
    go_wp2
    go_ret
    exact ⟨rfl, (Below.refl _ _).alloc (Nat.le_refl _) _⟩

def isIn (t : PTx) (i : Int) : Bool := decide (0 ≤ i ∧ i < t.ins.length)
set_option maxHeartbeats 1000000 in
theorem is_any (v : Value) (t : PTx) (i : Int) (w : World) (hv : TxAt w v t) :
    Calls Try.prog 44 #[v, .int .i64 i] w fun e w' => e = .returned (.bool (isIn t i)) ∧ Below w.heap.size w w' := by
  obtain ⟨a, u, rfl, h1, h2, -, -⟩ := hv
  obtain ⟨au, cu, rfl, -, -⟩ := h2.shape
  obtain ⟨a', c, rfl, hl1, hl2⟩ := h1.shape
  rw [maxLen_eq] at hl2
  unfold isIn
  generalize t.ins.length = n at *
  generalize t.outs.length = nu at *
  clear h1 h2
  go_enter Try.func44, Try.ntmps44
  by_cases h0 : 0 ≤ i
  · go_wp2
    go_ret
    exact ⟨ret_bool (by simp; try omega), (Below.refl _ _).alloc (Nat.le_refl _) _⟩
  · go_wp2
    go_ret
    exact ⟨ret_bool (by simp; try omega), (Below.refl _ _).alloc (Nat.le_refl _) _⟩

def okHeight (n : Int) : Bool := decide (0 ≤ n ∧ n ≤ 1000000)
end Go.Proofs.Ytmakghcoehkphaa
