/-
  The document's long and Check. Conditions: no more than a thousand Outs.
-/
import Derived.Test.YtelindgnkpfkiaaTxK
namespace Go.Proofs.Ytelindgnkpfkiaa
open Go.RowKit Go.BigFrame
set_option linter.unusedVariables false
set_option linter.unusedSimpArgs false

theorem any_at {α : Type} {p : α → Bool} {xs : List α} {k : Nat} {x : α} (hx : xs[k]? = some x) (hp : p x = true) : xs.any p = true := List.any_eq_true.2 ⟨x, List.mem_of_getElem? hx, hp⟩

end Go.Proofs.Ytelindgnkpfkiaa
