/-
  Where an element is inserted, as plain lists. Conditions: none beyond each theorem's own.
-/
import Derived.Test.YtmakghcoehkphaaGreatQ1ClaimBuilds
namespace Go.Proofs.YtmakghcoehkphaaGreat
section
variable {α : Type} {lt : α → α → Bool}
theorem ins_at (h : Weak lt) (c : α) {A B : List α} (hs : Asc lt (A ++ B)) (hB : ∀ b ∈ B, lt c b = true) (hA : ∀ A' y, A = A' ++ [y] → lt c y = false) : insR lt c (A ++ B) = A ++ c :: B := by
  obtain ⟨A2, B2, h1, h2, h3, h4⟩ := insR_split h c (A ++ B) hs
  have hA1 : ∀ a ∈ A, lt c a = false := by
    rcases List.eq_nil_or_concat A with rfl | ⟨A', y, e⟩
    · simp
    · have e' : A = A' ++ [y] := by simpa using e
      subst e'
      have hy := hA A' y rfl
      intro a ha
      rcases List.mem_append.1 ha with ha | ha
      · have h5 := (List.pairwise_append.1 (List.pairwise_append.1 hs).1).2.2 a ha y (by simp)
        cases hx : lt c a with
        | false => rfl
        | true => rw [h.wk c a y hx h5] at hy; cases hy
      · rw [List.mem_singleton.1 ha]; exact hy
  obtain ⟨rfl, rfl⟩ := split_one h1 hA1 hB h3 h4
  exact h2
/-- Two neighbours change places. -/
theorem swap_at (A B : List α) (y c : α) {j : Nat} (hj : j = A.length) : (((A ++ y :: c :: B).set (j + 1) y).set j c) = A ++ c :: y :: B := by
  subst hj
  rw [List.set_append_right _ _ (by omega), List.set_append_right _ _ (by omega)]
  simp
theorem swap_at' (A B : List α) (y c : α) {j : Nat} (hj : j = A.length) : (((A ++ y :: c :: B).set j c).set (j + 1) y) = A ++ c :: y :: B := by
  subst hj
  rw [List.set_append_right _ _ (by omega), List.set_append_right _ _ (by omega)]
  simp
/-- The document's place. -/
def placeOf (lt : α → α → Bool) (c : α) (out : List α) : Nat := out.findIdx (fun y => lt c y)
theorem place_ins (c : α) : ∀ out : List α, insR lt c out = out.take (placeOf lt c out) ++ c :: out.drop (placeOf lt c out)
  | [] => rfl
  | y :: ys => by
    unfold insR placeOf
    rw [List.findIdx_cons]
    cases h : lt c y with
    | true => simp
    | false =>
      have := place_ins c ys
      unfold placeOf at this
      simp [this]
theorem place_le (c : α) (out : List α) : placeOf lt c out ≤ out.length := List.findIdx_le_length
/-- From the end on: the least place of one that is greater, among those from k on. -/
def placeFrom (lt : α → α → Bool) (c : α) (out : List α) (k : Nat) : Nat := k + placeOf lt c (out.drop k)
theorem placeFrom_end (c : α) (out : List α) : placeFrom lt c out out.length = out.length := by unfold placeFrom placeOf; simp
theorem placeFrom_zero (c : α) (out : List α) : placeFrom lt c out 0 = placeOf lt c out := by unfold placeFrom; simp
theorem placeFrom_step (c : α) {out : List α} {k : Nat} {y : α} (hy : out[k]? = some y) : placeFrom lt c out k = if lt c y = true then k else placeFrom lt c out (k + 1) := by
  obtain ⟨hk, rfl⟩ := List.getElem?_eq_some_iff.1 hy
  unfold placeFrom placeOf
  rw [List.drop_eq_getElem_cons hk, List.findIdx_cons]
  cases h : lt c out[k] with
  | true => simp
  | false => simp; omega
/-- What stands in its place, built one by one. -/
def nextL (c : α) (out : List α) (p k : Nat) : List α := if p < k then out.take p ++ c :: (out.take k).drop p else out.take k
theorem nextL_zero (c : α) (out : List α) (p : Nat) : nextL c out p 0 = [] := by unfold nextL; simp
theorem nextL_step (c : α) {out : List α} {p k : Nat} {y : α} (hy : out[k]? = some y) : nextL c out p (k + 1) = (if k = p then nextL c out p k ++ [c] else nextL c out p k) ++ [y] := by
  obtain ⟨hk, rfl⟩ := List.getElem?_eq_some_iff.1 hy
  unfold nextL
  have e : out.take (k + 1) = out.take k ++ [out[k]] := by rw [List.take_add_one]; simp [hk]
  by_cases h1 : k = p
  · subst h1
    rw [if_pos (Nat.lt_succ_self _), if_neg (Nat.lt_irrefl _), if_pos rfl, e]
    rw [List.drop_append_of_le_length (by simp; omega), List.drop_eq_nil_of_le (by simp; omega)]
    simp
  · rw [if_neg h1]
    by_cases h2 : p < k
    · rw [if_pos (by omega), if_pos h2, e, List.drop_append_of_le_length (by simp; omega)]
      simp
    · rw [if_neg (by omega), if_neg h2, e]
theorem nextL_end (c : α) (out : List α) : (if placeOf lt c out = out.length then nextL c out (placeOf lt c out) out.length ++ [c] else nextL c out (placeOf lt c out) out.length) = insR lt c out := by
  rw [place_ins]
  have hle := place_le (lt := lt) c out
  generalize placeOf lt c out = p at *
  unfold nextL
  by_cases h : p = out.length
  · subst h
    rw [if_pos rfl, if_neg (Nat.lt_irrefl _)]
    simp
  · rw [if_neg h, if_pos (by omega)]
    simp
end
end Go.Proofs.YtmakghcoehkphaaGreat
