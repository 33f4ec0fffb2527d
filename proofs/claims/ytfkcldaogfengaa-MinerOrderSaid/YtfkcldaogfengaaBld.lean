/-
  A strings.Builder that a call has made itself: copyCheck and WriteString. Conditions: it lies in a block of the call's own; together no more than 2^47 bytes.
-/
import Derived.Test.YtfkcldaogfengaaOct
import Derived.Test.YtfkcldaogfengaaShelf
import Derived.Lib.Builder
namespace Go.Proofs.Ytfkcldaogfengaa
open Go.RowKit
set_option linter.unusedVariables false

theorem isb_later {T e B b : Nat} {bs : List Value} {w w' : World} (h : Lib.IsBuilder T e B b bs w) (hb : Below w.heap.size w w') : Lib.IsBuilder T e B b bs w' := by
  have key : ∀ p, Lib.BuilderAt T e B b p bs w → Lib.BuilderAt T e B b p bs w' := fun p ⟨hB, v, hbk, hown, hne⟩ =>
    ⟨hB, v, by rw [hb.block b (Array.getElem?_eq_some_iff.1 hbk).1]; exact hbk, ownsRow_below hown hb, hne⟩
  exact h.imp (key _) (key _)
theorem isb_new (T e : Nat) (w : World) : Lib.IsBuilder T e w.heap.size w.heap.size [] (w.alloc (.cells #[.pointer none, .slice none 0 0] T)) :=
  .inl ⟨Nat.le_refl _, .slice none 0 0, heap_alloc_new w _, World.ownsRow_nil _ _ _ _, by simp [Value.ownBlock]⟩
theorem isb_lt {T e B b : Nat} {bs : List Value} {w : World} (h : Lib.IsBuilder T e B b bs w) : B ≤ b ∧ b < w.heap.size := by
  rcases h with h | h <;> exact ⟨h.1, h.lt⟩

theorem byteCells_same (l : List UInt8) : Lib.byteCells l = bytesOf l := rfl
end Go.Proofs.Ytfkcldaogfengaa
