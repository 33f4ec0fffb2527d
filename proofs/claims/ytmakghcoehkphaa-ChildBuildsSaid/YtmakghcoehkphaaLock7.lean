/-
  Locks, the seventh part: equal slices; the Sequence. Conditions: none beyond each theorem's own.
-/
import Derived.Test.YtmakghcoehkphaaLock6
import Derived.Laws.StructEq
import Derived.Laws.Cover2
namespace Go.Proofs.Ytmakghcoehkphaa
open Go.RowKit Go.BigFrame
set_option linter.unusedVariables false

instance : DecidableEq PBr := fun a b => match a, b with | ⟨a1, a2, a3⟩, ⟨b1, b2, b3⟩ => if h : a1 = b1 ∧ a2 = b2 ∧ a3 = b3 then .isTrue (by obtain ⟨rfl, rfl, rfl⟩ := h; rfl) else .isFalse (by intro e; cases e; exact h ⟨rfl, rfl, rfl⟩)

def brEq (a b c a' b' c' : Int) : Bool := decide (a = a' ∧ b = b' ∧ c = c')
@[go_sem] theorem eq_br (a b c a' b' c' : Int) (w : World) : (Op.equalIn 10000 27 (.agg #[.int .u16 a, .int .u16 b, .int .u32 c]) (.agg #[.int .u16 a', .int .u16 b', .int .u32 c'])).run Try.prog w = .ok (brEq a b c a' b' c') w := by
  unfold brEq
  have u1 := Try.underlying25
  have u2 := Try.underlying22
  have hS : Try.prog.underlying 27 = some (.struct (Try.prog.fieldsOf 27)) := by kernel_rfl
  have hp : Try.prog.stoodInHeld 27 = false := by kernel_rfl
  rw [show (10000 : Nat) = 9999 + 1 from rfl, run_equalIn_agg w 9999 27 _ _ hS hp]
  simp only [Program.fieldsOf, Try.underlying27]
  go_simp
  by_cases h1 : a = a' <;> by_cases h2 : b = b' <;> by_cases h3 : c = c' <;> simp [h1, h2, h3]
attribute [-go_sem] run_equalIn_agg
theorem guard_br : Try.prog.eqGuardType Try.prog.depth 27 = false := by kernel_rfl

theorem lists_eq_of {α : Type} {xs ys : List α} {n : Nat} (h1 : xs.length = n) (h2 : ys.length = n) (h : ∀ i, i < n → xs[i]? = ys[i]?) : xs = ys := by
  apply List.ext_getElem?
  intro i
  rcases Nat.lt_or_ge i n with hi | hi
  · exact h i hi
  · rw [List.getElem?_eq_none (by omega), List.getElem?_eq_none (by omega)]

end Go.Proofs.Ytmakghcoehkphaa
