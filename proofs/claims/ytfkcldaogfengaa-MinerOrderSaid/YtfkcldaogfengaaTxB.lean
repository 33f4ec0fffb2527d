/-
  IndexFunc and ContainsFunc over Ins, Outs and texts, for any predicate. Conditions: the predicate's own contract.
-/
import Derived.Test.YtfkcldaogfengaaTxA
namespace Go.Proofs.Ytfkcldaogfengaa
open Go.RowKit Go.BigFrame
set_option linter.unusedVariables false
set_option linter.unusedSimpArgs false

/-- The first place of which p is true, or -1. -/
def IdxIs {α : Type} (p : α → Bool) (xs : List α) (n : Int) : Prop :=
  (n = -1 ∧ xs.any p = false) ∨ ∃ (k : Nat) (x : α), n = k ∧ xs[k]? = some x ∧ p x = true ∧ ∀ (j : Nat) (y : α), j < k → xs[j]? = some y → p y = false
theorem IdxIs.any {α : Type} {p : α → Bool} {xs : List α} {n : Int} (h : IdxIs p xs n) : decide (0 ≤ n) = xs.any p := by
  rcases h with ⟨rfl, h⟩ | ⟨k, x, rfl, h1, h2, -⟩
  · rw [h]; rfl
  · have : xs.any p = true := List.any_eq_true.2 ⟨x, List.mem_of_getElem? h1, h2⟩
    rw [this]; simp
theorem any_no {α : Type} {p : α → Bool} {xs : List α} {n : Nat} (hn : n = xs.length) (h : ∀ (j : Nat) (y : α), j < n → xs[j]? = some y → p y = false) : xs.any p = false := by
  rw [List.any_eq_false]
  intro x hx
  obtain ⟨j, hj, rfl⟩ := List.getElem_of_mem hx
  rw [h j _ (by omega) (List.getElem?_eq_getElem hj)]
  exact Bool.false_ne_true
theorem before_step {α : Type} {p : α → Bool} {xs : List α} {k : Nat} {x : α} (h : ∀ (j : Nat) (y : α), j < k → xs[j]? = some y → p y = false) (hx : xs[k]? = some x) (hp : p x = false) : ∀ (j : Nat) (y : α), j < k + 1 → xs[j]? = some y → p y = false := by
  intro j y hj hy
  rcases Nat.lt_or_ge j k with h1 | h1
  · exact h j y h1 hy
  · obtain rfl : j = k := by omega
    rw [hx] at hy
    obtain rfl := Option.some.inj hy
    exact hp

/-- An In as one value. -/
def InAt (w : World) (v : Value) (x : PIn) : Prop := ∃ wv, v = .agg #[.string x.id, .int .u32 x.idx, .int .u32 x.seq, wv] ∧ SlAt rpStr w wv x.wit ∧ x.idx < 4294967296 ∧ x.seq < 4294967296 ∧ x.id.size ≤ 9223372036854775807
def OutAt (w : World) (v : Value) (x : POut) : Prop := v = .agg #[.int .i64 x.val, .string x.script] ∧ OkOut x
def StrAt (w : World) (v : Value) (x : ByteArray) : Prop := v = .string x ∧ x.size ≤ 9223372036854775807

end Go.Proofs.Ytfkcldaogfengaa
