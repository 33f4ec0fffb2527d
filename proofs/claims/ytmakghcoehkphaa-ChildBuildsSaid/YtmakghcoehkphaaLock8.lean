/-
  Locks, the eighth part: equal texts; the Sequence; transactions as data. Conditions: none beyond each theorem's own.
-/
import Derived.Test.YtmakghcoehkphaaLock7
namespace Go.Proofs.Ytmakghcoehkphaa
open Go.RowKit Go.BigFrame
set_option linter.unusedVariables false

theorem sequence_any (tg dl hg : Nat) (w : World) (hd : dl < 65536) : Calls Try.prog 47 #[.agg #[.int .u16 tg, .int .u16 dl, .int .u32 hg]] w fun e w' => e = .returned (.int .u32 (if 0 < dl then (dl : Int) else 4294967293)) ∧ Below w.heap.size w w' := by
  by_cases h : 0 < dl
  · rw [if_pos h]
    go_enter Try.func47, Try.ntmps47
    go_wp2
    go_ret
    exact ⟨rfl, (Below.refl _ _).alloc (Nat.le_refl _) _⟩
  · rw [if_neg h]
    go_enter Try.func47, Try.ntmps47
    go_wp2
    go_ret
    exact ⟨rfl, (Below.refl _ _).alloc (Nat.le_refl _) _⟩

def waitsOf (t : PTx) (i : Nat) : Nat := match t.ins[i]? with | some x => if x.seq < 2147483648 ∧ 2 ≤ t.ver then x.seq % 65536 else 0 | none => 0
theorem waitsOf_lt (t : PTx) (i : Nat) : waitsOf t i < 65536 := by
  unfold waitsOf
  split
  · split
    · exact Nat.mod_lt _ (by omega)
    · omega
  · omega

end Go.Proofs.Ytmakghcoehkphaa
