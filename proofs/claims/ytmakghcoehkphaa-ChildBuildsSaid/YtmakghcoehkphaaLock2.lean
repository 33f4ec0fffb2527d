/-
  Locks, the second part: the document's Put, both Gets. Conditions: none beyond each theorem's own.
-/
import Derived.Test.YtmakghcoehkphaaLock
namespace Go.Proofs.Ytmakghcoehkphaa
open Go.RowKit
set_option linter.unusedVariables false

/-- The number that stands in so many bytes. -/
theorem number_any (s : ByteArray) (p k : Nat) (hk : okSize k) (hs : s.size ≤ 9223372036854775807) (h : p + k ≤ s.size) (w : World) :
    Calls Try.prog 89 #[.string s, .int .i64 p, .int .i64 k] w fun e w' => e = .returned (.int .u64 (getN s p k)) ∧ Below w.heap.size w w' := by
  have hg := get_yes s p k hk hs h w
  have HG := Lib.hid hg
  clear hg hk
  go_enter Try.func89, Try.ntmps89
  go_wp2_with fail
  refine HG.out.mono ?_
  rintro e w1 ⟨rfl, hb1⟩
  go_wp2
  go_ret
  exact ⟨rfl, hb1⟩

end Go.Proofs.Ytmakghcoehkphaa
