/-
  The document's Check. Conditions: no more than a thousand Outs.
-/
import Derived.Test.YtelindgnkpfkiaaTxL
namespace Go.Proofs.Ytelindgnkpfkiaa
open Go.RowKit Go.BigFrame
set_option linter.unusedVariables false
set_option linter.unusedSimpArgs false

theorem check_counts {t : PTx} (h : countsOf t = false) : checkOf t = 6 := by unfold checkOf; rw [h]; rfl
theorem check_long {t : PTx} (h : countsOf t = true) (h2 : longOf t = true) : checkOf t = 20 := by unfold checkOf; rw [h, h2]; rfl
theorem check_form {t : PTx} (h : countsOf t = true) (h2 : longOf t = false) (h3 : formedOf t = false) : checkOf t = 4 := by unfold checkOf; rw [h, h2, h3]; rfl
theorem check_dup {t : PTx} (h : countsOf t = true) (h2 : longOf t = false) (h3 : formedOf t = true) (h4 : dup (ptsOf t) = true) : checkOf t = 7 := by unfold checkOf; rw [h, h2, h3, h4]; rfl
theorem check_sum {t : PTx} (h : countsOf t = true) (h2 : longOf t = false) (h3 : formedOf t = true) (h4 : dup (ptsOf t) = false) : checkOf t = (sumOf t).2 := by unfold checkOf; rw [h, h2, h3, h4]; rfl
theorem counts_of {t : PTx} (h : 1 ≤ t.ins.length ∧ t.ins.length ≤ 256 ∧ 1 ≤ t.outs.length ∧ t.outs.length ≤ 256) (hw : (t.ins.any fun x => decide (4 < x.wit.length)) = false) : countsOf t = true := by
  unfold countsOf
  rw [hw, decide_eq_true h.1, decide_eq_true h.2.1, decide_eq_true h.2.2.1, decide_eq_true h.2.2.2]
  rfl
theorem counts_not {t : PTx} (h : ¬ (1 ≤ t.ins.length ∧ t.ins.length ≤ 256 ∧ 1 ≤ t.outs.length ∧ t.outs.length ≤ 256)) : countsOf t = false := by
  cases hc : countsOf t
  · rfl
  · exfalso
    apply h
    unfold countsOf at hc
    simp only [Bool.and_eq_true, decide_eq_true_eq] at hc
    exact ⟨hc.1.1.1, hc.1.1.2, hc.1.2.1, hc.1.2.2⟩
theorem counts_wit {t : PTx} (h : (t.ins.any fun x => decide (4 < x.wit.length)) = true) : countsOf t = false := by
  unfold countsOf
  rw [h]
  simp

theorem ne_step {ps : List Pt} {p z : Pt} {j : Nat} (h : ∀ (l : Nat) (z : Pt), l < j → ps[l]? = some z → z ≠ p) (hz : ps[j]? = some z) (hne : z ≠ p) : ∀ (l : Nat) (z : Pt), l < j + 1 → ps[l]? = some z → z ≠ p := by
  intro l z' hl hz'
  rcases Nat.lt_or_ge l j with h1 | h1
  · exact h l z' h1 hz'
  · obtain rfl : l = j := by omega
    rw [hz] at hz'
    obtain rfl := Option.some.inj hz'
    exact hne
theorem ne_mem {ps : List Pt} {p : Pt} {k : Nat} (h : ∀ (l : Nat) (z : Pt), l < k → ps[l]? = some z → z ≠ p) : p ∉ ps.take k := by
  intro hm
  obtain ⟨l, hl⟩ := List.mem_iff_getElem?.1 hm
  rw [List.getElem?_take] at hl
  by_cases hlk : l < k
  · rw [if_pos hlk] at hl
    exact h l p hlk hl rfl
  · rw [if_neg hlk] at hl
    cases hl

end Go.Proofs.Ytelindgnkpfkiaa
