/-
  The fee of a size at a rate, both ways. Conditions: none.
-/
import Derived.Test.YtmakghcoehkphaaGreatQ2ClaimBuilds
namespace Go.Proofs.YtmakghcoehkphaaGreat
open Go.RowKit Go.BigFrame
set_option linter.unusedVariables false
set_option linter.unusedSimpArgs false

/-- The fee and the error. -/
def feeE (r s : Int) : Int × Int := if (0 ≤ r ∧ r ≤ 100000000) ∧ 0 ≤ s ∧ s ≤ 1000000 then ((r * s + 999) / 1000, 0) else (0, 3)
def PIs (z : Int × Int) (w : World) (e : Ending) (w' : World) : Prop := e = .returned (.tuple #[.int .i64 z.1, .int .i64 z.2]) ∧ w = w'
theorem mul_in {r s : Int} (h : (0 ≤ r ∧ r ≤ 100000000) ∧ 0 ≤ s ∧ s ≤ 1000000) : 0 ≤ r * s ∧ r * s ≤ 100000000000000 := by
  refine ⟨Int.mul_nonneg h.1.1 h.2.1, ?_⟩
  have := Int.mul_le_mul h.1.2 h.2.2 h.2.1 (show (0 : Int) ≤ 100000000 by decide)
  exact Int.le_trans this (by decide)
set_option maxHeartbeats 1000000 in
theorem fee_any (r s : Int) (w : World) : Calls Tryz.prog 45 #[.int .i64 r, .int .i64 s] w (PIs (feeE r s) w) := by
  by_cases h : (0 ≤ r ∧ r ≤ 100000000) ∧ 0 ≤ s ∧ s ≤ 1000000
  · have hE : feeE r s = ((r * s + 999) / 1000, 0) := if_pos h
    have hm := mul_in h
    have HE := Lib.hid hE
    obtain ⟨⟨h1, h2⟩, h3, h4⟩ := h
    clear hE
    obtain ⟨m, hmm⟩ : ∃ m, m = r * s := ⟨_, rfl⟩
    go_enter Tryz.func45, Tryz.ntmps45
    go_wp2_with (go_at_call 65; refine (awithin_any _ _ w).mono ?_; rintro e w' ⟨rfl, rfl⟩)
    go_ret2
    exact ⟨by rw [HE.out, show r * s + 1000 - 1 = r * s + 999 by omega]; rfl, rfl⟩
  · have HE := Lib.hid (show feeE r s = (0, 3) from if_neg h)
    have hc : ¬ 0 ≤ r ∨ (0 ≤ r ∧ ¬ r ≤ 100000000) ∨ ((0 ≤ r ∧ r ≤ 100000000) ∧ ¬ 0 ≤ s) ∨ ((0 ≤ r ∧ r ≤ 100000000) ∧ 0 ≤ s ∧ ¬ s ≤ 1000000) := by omega
    clear h
    go_enter Tryz.func45, Tryz.ntmps45
    rcases hc with h | ⟨h1, h⟩ | ⟨⟨h1, h2⟩, h⟩ | ⟨⟨h1, h2⟩, h3, h⟩
    all_goals
      go_wp2_with (go_at_call 65; refine (awithin_any _ _ w).mono ?_; rintro e w' ⟨rfl, rfl⟩)
      all_goals first | (rename_i hh; simp at hh; omega) | (go_ret2; exact ⟨by rw [HE.out]; rfl, rfl⟩)
theorem rfee_any (r s : Int) (w : World) : Calls Tryz.prog 46 #[.int .i64 r, .int .i64 s] w (PIs (feeE r s) w) := by
  by_cases h : (0 ≤ r ∧ r ≤ 100000000) ∧ 0 ≤ s ∧ s ≤ 1000000
  · have hE : feeE r s = ((r * s + 999) / 1000, 0) := if_pos h
    have hm := mul_in h
    have HE := Lib.hid hE
    obtain ⟨⟨h1, h2⟩, h3, h4⟩ := h
    clear hE
    have hlt : r * s / 1000 * 1000 < r * s ∨ r * s / 1000 * 1000 = r * s := by omega
    go_enter Tryz.func46, Tryz.ntmps46
    rcases hlt with hl | hl
    · go_wp2_with fail
      go_ret2
      exact ⟨by rw [HE.out, show r * s / 1000 + 1 = (r * s + 999) / 1000 by omega]; rfl, rfl⟩
    · have hl2 : ¬ r * s / 1000 * 1000 < r * s := by omega
      clear hl
      go_wp2_with fail
      go_ret2
      exact ⟨by rw [HE.out, show r * s / 1000 = (r * s + 999) / 1000 by omega]; rfl, rfl⟩
  · have HE := Lib.hid (show feeE r s = (0, 3) from if_neg h)
    have hc : r < 0 ∨ (¬ r < 0 ∧ 100000000 < r) ∨ (¬ r < 0 ∧ ¬ 100000000 < r ∧ s < 0) ∨ (¬ r < 0 ∧ ¬ 100000000 < r ∧ ¬ s < 0 ∧ 1000000 < s) := by omega
    clear h
    go_enter Tryz.func46, Tryz.ntmps46
    rcases hc with h | ⟨h1, h⟩ | ⟨h1, h2, h⟩ | ⟨h1, h2, h3, h⟩
    all_goals
      go_wp2_with fail
      go_ret2
      exact ⟨by rw [HE.out]; rfl, rfl⟩
end Go.Proofs.YtmakghcoehkphaaGreat
