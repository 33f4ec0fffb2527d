/-
  A drawn region with three operations that change the world, one behind the other: a block is made, a row is appended to, a cell is stored. Conditions: none beyond each theorem's own.
-/
import Derived.Test.YtmcknjldimnaoaaRegv
namespace Go.Proofs.Ytmcknjldimnaoaa
open Go.RowKit Go.BigFrame
set_option linter.unusedVariables false

/-- The values, as a list. -/
def RL (vs : List Value) : Nat → List Value → Value → Prop := fun i _ v => v = vs.getD i undef
structure WX (i1 i2 i3 : Nat) (wa wb wc wd : World) (L : Nat → Prop) (w : World) : Prop where
  a : ¬ L i1 → ¬ L i2 → ¬ L i3 → w = wa
  b : L i1 → ¬ L i2 → ¬ L i3 → w = wb
  c : L i1 → L i2 → ¬ L i3 → w = wc
  d : L i3 → w = wd
section
variable {i1 i2 i3 : Nat} {wa wb wc wd w : World} {L : Nat → Prop}
theorem WX.start : WX i1 i2 i3 wa wb wc wd (fun _ => False) wa := ⟨fun _ _ _ => rfl, False.elim, False.elim, False.elim⟩
theorem WX.add (h : WX i1 i2 i3 wa wb wc wd L w) (i : Nat) (h1 : i1 ≠ i) (h2 : i2 ≠ i) (h3 : i3 ≠ i) : WX i1 i2 i3 wa wb wc wd (fun j => j = i ∨ L j) w := by
  have e1 : (i1 = i ∨ L i1) ↔ L i1 := ⟨fun h => h.elim (fun h => absurd h h1) id, .inr⟩
  have e2 : (i2 = i ∨ L i2) ↔ L i2 := ⟨fun h => h.elim (fun h => absurd h h2) id, .inr⟩
  have e3 : (i3 = i ∨ L i3) ↔ L i3 := ⟨fun h => h.elim (fun h => absurd h h3) id, .inr⟩
  refine ⟨?_, ?_, ?_, ?_⟩
  · rw [e1, e2, e3]; exact h.a
  · rw [e1, e2, e3]; exact h.b
  · rw [e1, e2, e3]; exact h.c
  · rw [e3]; exact h.d
theorem WX.s1 (h : WX i1 i2 i3 wa wb wc wd L w) (n2 : ¬ L i2) (n3 : ¬ L i3) (h2 : i2 ≠ i1) (h3 : i3 ≠ i1) : WX i1 i2 i3 wa wb wc wd (fun j => j = i1 ∨ L j) wb :=
  ⟨fun h _ _ => absurd (.inl rfl) h, fun _ _ _ => rfl, fun _ h _ => absurd (h.elim (fun e => absurd e h2) id) n2, fun h => absurd (h.elim (fun e => absurd e h3) id) n3⟩
theorem WX.s2 (h : WX i1 i2 i3 wa wb wc wd L w) (y1 : L i1) (n3 : ¬ L i3) (h3 : i3 ≠ i2) : WX i1 i2 i3 wa wb wc wd (fun j => j = i2 ∨ L j) wc :=
  ⟨fun h _ _ => absurd (.inr y1) h, fun _ h _ => absurd (.inl rfl) h, fun _ _ _ => rfl, fun h => absurd (h.elim (fun e => absurd e h3) id) n3⟩
theorem WX.s3 : WX i1 i2 i3 wa wb wc wd (fun j => j = i3 ∨ L j) wd :=
  ⟨fun _ _ h => absurd (.inl rfl) h, fun _ _ h => absurd (.inl rfl) h, fun _ _ h => absurd (.inl rfl) h, fun _ => rfl⟩
theorem WX.read (h : WX i1 i2 i3 wa wb wc wd L w) (n3 : ¬ L i3) (h21 : L i2 → L i1) (Q : World → Prop) (qa : Q wa) (qb : Q wb) (qc : Q wc) : Q w := by
  by_cases h1 : L i1
  · by_cases h2 : L i2
    · rw [h.c h1 h2 n3]; exact qc
    · rw [h.b h1 h2 n3]; exact qb
  · rw [h.a h1 (fun h2 => h1 (h21 h2)) n3]; exact qa
end
end Go.Proofs.Ytmcknjldimnaoaa
