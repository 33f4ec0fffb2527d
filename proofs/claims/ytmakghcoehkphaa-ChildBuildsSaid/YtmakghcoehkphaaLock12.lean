/-
  Locks, the twelfth part: the document's Open. Conditions: none beyond each theorem's own.
-/
import Derived.Test.YtmakghcoehkphaaLock11
namespace Go.Proofs.Ytmakghcoehkphaa
open Go.RowKit Go.BigFrame
set_option linter.unusedVariables false

theorem chosen_none {s : ByteArray} {ws : List ByteArray} (h : signedOf ws = none) : chosenOf s ws = (⟨0, 0, 0⟩, false) := by
  unfold chosenOf; rw [h]; split <;> simp_all
theorem chosen_out {s : ByteArray} {ws : List ByteArray} {n t : Nat} (h : signedOf ws = some (n, t)) (hl : ¬ n < ((lockGet s).getD []).length) : chosenOf s ws = (⟨0, 0, 0⟩, false) := by
  unfold chosenOf; rw [h]
  cases hg : lockGet s with
  | none => rfl
  | some l =>
    rw [hg] at hl
    dsimp only
    rw [List.getElem?_eq_none (by simpa using hl)]
theorem chosen_in {s : ByteArray} {ws : List ByteArray} {n t : Nat} {x : PBr} (h : signedOf ws = some (n, t)) (hx : ((lockGet s).getD [])[n]? = some x) : chosenOf s ws = (x, x.tag == 0 || x.tag == t) := by
  unfold chosenOf; rw [h]
  cases hg : lockGet s with
  | none => rw [hg] at hx; simp at hx
  | some l =>
    rw [hg] at hx
    dsimp only
    rw [show l[n]? = some x from hx]

end Go.Proofs.Ytmakghcoehkphaa
