/-
  Locks, the fourth part: the document's Get. Conditions: none beyond each theorem's own.
-/
import Derived.Test.YtmakghcoehkphaaLock3
namespace Go.Proofs.Ytmakghcoehkphaa
open Go.RowKit
set_option linter.unusedVariables false

def RGetIs (s : ByteArray) (w : World) (e : Ending) (w' : World) : Prop := ∃ v, e = .returned v ∧ SlAt rpBr w' v ((lockGet s).getD []) ∧ Below w.heap.size w w'
theorem rget_none {s : ByteArray} {w w' : World} (h : lockGet s = none) (hb : Below w.heap.size w w') : RGetIs s w (.returned (.slice none 0 0)) w' := by
  unfold RGetIs
  rw [h]
  exact ⟨_, rfl, sl_nil, hb⟩
theorem rget_some {s : ByteArray} {w w' : World} {l : List PBr} {v : Value} (h : lockGet s = some l) (hv : SlAt rpBr w' v l) (hb : Below w.heap.size w w') : RGetIs s w (.returned v) w' := by
  unfold RGetIs
  rw [h]
  exact ⟨_, rfl, hv, hb⟩

end Go.Proofs.Ytmakghcoehkphaa
