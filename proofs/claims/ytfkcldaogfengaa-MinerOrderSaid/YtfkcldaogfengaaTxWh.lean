/-
  A transaction that may be. Conditions: none.
-/
import Derived.Test.YtfkcldaogfengaaTxN
namespace Go.Proofs.Ytfkcldaogfengaa
open Go.RowKit Go.BigFrame
set_option linter.unusedVariables false
set_option linter.unusedSimpArgs false

structure Whole (t : PTx) : Prop where
  counts : countsOf t = true
  long : longOf t = false
  formed : formedOf t = true
  dup : dup (ptsOf t) = false
  sum : (sumOf t).2 = 0
theorem whole_of {t : PTx} (h : checkOf t = 0) : Whole t := by
  cases h1 : countsOf t
  · rw [check_counts h1] at h; exact absurd h (by decide)
  cases h2 : longOf t
  rotate_left
  · rw [check_long h1 h2] at h; exact absurd h (by decide)
  cases h3 : formedOf t
  · rw [check_form h1 h2 h3] at h; exact absurd h (by decide)
  cases h4 : dup (ptsOf t)
  rotate_left
  · rw [check_dup h1 h2 h3 h4] at h; exact absurd h (by decide)
  rw [check_sum h1 h2 h3 h4] at h
  exact ⟨h1, h2, h3, h4, h⟩
theorem counts_parts {t : PTx} (h : countsOf t = true) : (1 ≤ t.ins.length ∧ t.ins.length ≤ 256 ∧ 1 ≤ t.outs.length ∧ t.outs.length ≤ 256) ∧ (t.ins.any fun x => decide (4 < x.wit.length)) = false := by
  unfold countsOf at h
  simp only [Bool.and_eq_true, decide_eq_true_eq, Bool.not_eq_true'] at h
  exact ⟨⟨h.1.1.1, h.1.1.2, h.1.2.1, h.1.2.2⟩, h.2⟩
theorem long_parts {t : PTx} (h : longOf t = false) : (t.outs.any fun x => decide (40 < x.script.size)) = false ∧ t.ins.any longIn = false := by
  unfold longOf at h
  exact Bool.or_eq_false_iff.1 h
theorem formed_parts {t : PTx} (h : formedOf t = true) : ∀ x ∈ t.ins, x.id.size = 32 ∧ (isBase x.id x.idx = true → t.ins.length ≤ 1) := by
  intro x hx
  unfold formedOf at h
  have h1 := List.all_eq_true.1 h x hx
  unfold formIn at h1
  simp only [Bool.and_eq_true, decide_eq_true_eq, Bool.not_eq_true', Bool.and_eq_false_iff, decide_eq_false_iff_not] at h1
  refine ⟨h1.1, fun hb => ?_⟩
  rcases h1.2 with h2 | h2
  · rw [hb] at h2; cases h2
  · omega
theorem formed_of {t : PTx} (h : ∀ x ∈ t.ins, x.id.size = 32 ∧ (isBase x.id x.idx = true → t.ins.length ≤ 1)) : formedOf t = true := by
  unfold formedOf
  rw [List.all_eq_true]
  intro x hx
  obtain ⟨h1, h2⟩ := h x hx
  unfold formIn
  rw [decide_eq_true h1, Bool.true_and, Bool.not_eq_true', Bool.and_eq_false_iff]
  cases hb : isBase x.id x.idx
  · exact .inl rfl
  · have := h2 hb
    exact .inr (decide_eq_false (by omega))
theorem dup_nodup {ps : List Pt} (h : dup ps = false) : ps.Nodup := by
  apply Classical.byContradiction
  intro hn
  rw [dup_yes hn] at h
  cases h
end Go.Proofs.Ytfkcldaogfengaa
