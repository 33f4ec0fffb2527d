/-
  strings.Builder's WriteString, once more: all blocks but the builder's own stay. Conditions: those of bwrite_any.
-/
import Derived.Test.YtfkcldaogfengaaShaB
namespace Go.Proofs.Ytfkcldaogfengaa
open Go.RowKit
set_option linter.unusedVariables false

/-- The builder's row is another block. -/
def RowNot (b X : Nat) (w : World) : Prop := ∀ (p v : Value) (T : TypeId) (f : Nat × Nat), w.heap[b]? = some (.cells #[p, v] T f) → v.ownBlock ≠ some X
/-- What isn't the builder's own stays. -/
def BKeep (b : Nat) (w w' : World) : Prop := ∀ X, X ≠ b → X < w.heap.size → RowNot b X w → w'.heap[X]? = w.heap[X]? ∧ RowNot b X w' ∧ X < w'.heap.size
theorem BKeep.refl (b : Nat) (w : World) : BKeep b w w := fun X h1 h2 h3 => ⟨rfl, h3, h2⟩
theorem BKeep.trans {b : Nat} {w1 w2 w3 : World} (h : BKeep b w1 w2) (k : BKeep b w2 w3) : BKeep b w1 w3 := fun X h1 h2 h3 => by
  obtain ⟨e1, r1, l1⟩ := h X h1 h2 h3
  obtain ⟨e2, r2, l2⟩ := k X h1 l1 r1
  exact ⟨e2.trans e1, r2, l2⟩
theorem BKeep.of_below {b : Nat} {w w' : World} (h : Below w.heap.size w w') (hb : b < w.heap.size) : BKeep b w w' := fun X h1 h2 h3 =>
  ⟨h.block X h2, fun p v T f e => h3 p v T f (by rw [← h.block b hb]; exact e), Nat.lt_of_lt_of_le h2 h.size⟩
/-- A block that is made behind the builder isn't the builder's row. -/
theorem rowNot_new {T e B b : Nat} {bs : List Value} {w : World} {X : Nat} (h : Lib.IsBuilder T e B b bs w) (hX : w.heap.size ≤ X) : RowNot b X w := by
  intro p v T' f e' hv
  have key : ∀ q, Lib.BuilderAt T e B b q bs w → False := by
    rintro q ⟨-, v', hbk, hown, -⟩
    rw [hbk] at e'
    have e2 := Option.some.inj e'
    injection e2 with e3 e4
    have e5 : v' = v := by
      have := congrArg (fun a => a.toList) e3
      simp at this
      exact this.2
    subst e5
    have := (hown.lt X hv).2
    omega
  rcases h with h | h
  · exact key _ h
  · exact key _ h
theorem rowNot_new' {T e B b : Nat} {bs : List Value} {w w' : World} {X : Nat} (h : Lib.IsBuilder T e B b bs w) (hb : Below w.heap.size w w') (hX : w.heap.size ≤ X) (hlt : b < w.heap.size) : RowNot b X w' := fun p v T' f e =>
  rowNot_new h hX p v T' f (by rw [← hb.block b hlt]; exact e)
end Go.Proofs.Ytfkcldaogfengaa
