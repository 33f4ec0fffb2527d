/-
  kedgeref06.Bytes. Conditions: those of Enc.
-/
import Derived.Test.YtmakghcoehkphaaWd
namespace Go.Proofs.Ytmakghcoehkphaa
open Go.RowKit Go.BigFrame
set_option linter.unusedVariables false
set_option linter.unusedSimpArgs false

def mkB (bare : Bool) (l : List PIn) : Bool := !bare && l.any fun x => decide (0 < x.wit.length)
theorem mkB_step (bare : Bool) {l : List PIn} {k : Nat} {x : PIn} (h : l[k]? = some x) : mkB bare (l.take (k + 1)) = (mkB bare (l.take k) || (!bare && decide (0 < x.wit.length))) := by
  unfold mkB
  rw [List.take_add_one, h]
  cases bare <;> simp
theorem vint_size (n : Nat) : (bL (vintL n)).size ≤ 9 := by rw [bL_size]; exact vintL_le n
theorem leb_size (n k : Nat) : (bL (leB n k)).size = k := by rw [bL_size, leB_length]
theorem str_app {s s' : ByteArray} {L M : List UInt8} (h : s = bL L) (h' : s' = bL M) : s ++ s' = bL (L ++ M) := by rw [h, h', bL_app]

end Go.Proofs.Ytmakghcoehkphaa
