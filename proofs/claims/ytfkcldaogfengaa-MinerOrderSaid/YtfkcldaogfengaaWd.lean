/-
  wire.witnessed, wire.Encode, wire.Bare. Conditions: no more than a thousand Outs.
-/
import Derived.Test.YtfkcldaogfengaaWc
import Derived.Test.YtfkcldaogfengaaReg
namespace Go.Proofs.Ytfkcldaogfengaa
open Go.RowKit Go.BigFrame
set_option linter.unusedVariables false
set_option linter.unusedSimpArgs false

theorem witsL_le {t : PTx} (he : Enc t) (b : Bool) : (witsL b t.ins).length ≤ 110000 := by
  have h2 := flat_le witB 400 t.ins fun x hx => witB_le (he.ids x hx).2
  have h3 := he.ins
  unfold witsL
  split
  · omega
  · simp
theorem encL_le {t : PTx} (he : Enc t) (b : Bool) : (encL t b).length ≤ 200000 := by
  have h1 := preE_le he b
  have h2 := witsL_le he b
  have e : encL t b = preE t b ++ (witsL b t.ins ++ leB t.lock 4) := by simp [preE, preC, preA, encL, List.append_assoc]
  rw [e, List.length_append, List.length_append, leB_length]
  omega
/-- It returns this text and this error, and makes new blocks alone. -/
def TIs (s : ByteArray) (c : Int) (w : World) (e : Ending) (w' : World) : Prop := e = .returned (.tuple #[.string s, .int .i64 c]) ∧ Below w.heap.size w w'
noncomputable def encE (t : PTx) (b : Bool) : ByteArray := if checkOf t = 0 then bL (encL t b) else bL []

end Go.Proofs.Ytfkcldaogfengaa
