/-
  What a fee tells of its transaction and its coins; a set out of which coins are taken. Conditions: none.
-/
import Derived.Test.YtelindgnkpfkiaaGreatDoorQ10CheckFeesCard
namespace Go.Proofs.YtelindgnkpfkiaaGreatDoor
open Go.RowKit Go.BigFrame
set_option linter.unusedVariables false
set_option linter.unusedSimpArgs false

theorem spentR_ok {r : PCn × Bool} {t : PTx} {i : Nat} {h : Int} (hs : (spentR r t i h).2 = 0) : r.2 = true ∧ openOf r.1.script t i = 0 ∧ ripeOf t i r.1.height h = true := by
  unfold spentR at hs
  split at hs
  · exact absurd (show (8 : Int) = 0 from hs) (by decide)
  · rename_i h1
    split at hs
    · rename_i h2; exact absurd hs h2
    · rename_i h2
      split at hs
      · exact absurd (show (10 : Int) = 0 from hs) (by decide)
      · rename_i h3
        exact ⟨by simpa using h1, by simpa using h2, by simpa using h3⟩
theorem spentR_of {r : PCn × Bool} {t : PTx} {i : Nat} {h : Int} (h1 : r.2 = true) (h2 : openOf r.1.script t i = 0) (h3 : ripeOf t i r.1.height h = true) : (spentR r t i h).2 = 0 := by
  unfold spentR
  rw [if_neg (by simp [h1]), if_neg (by simp [h2]), if_neg (by simp [h3])]
theorem spEr_none {g : Pt → PCn × Bool} {t : PTx} {h : Int} : ∀ {l : List PIn} {i : Nat}, spEr g t h i l = none → ∀ j y, l[j]? = some y → (spentR (g (y.id, y.idx)) t (i + j) h).2 = 0
  | [], i, _, j, y, hy => by simp at hy
  | x :: r, i, hn, j, y, hy => by
    unfold spEr at hn
    split at hn
    · cases hn
    · rename_i h0
      match j, hy with
      | 0, hy =>
        obtain rfl : x = y := by simpa using hy
        rw [Nat.add_zero]
        simpa using h0
      | j + 1, hy =>
        have := spEr_none hn j y (by simpa using hy)
        rw [show i + (j + 1) = i + 1 + j by omega]
        exact this
/-- What a fee tells. -/
structure FeeOk (g : Pt → PCn × Bool) (t : PTx) (h n : Int) : Prop where
  form : formE t = 0
  spent : ∀ i x, t.ins[i]? = some x → (spentR (g (x.id, x.idx)) t i h).2 = 0
  sum : (sumA 0 (valsG g t.ins)).2 = 0
  le : (sumA 0 (t.outs.map (·.val))).1 ≤ (sumA 0 (valsG g t.ins)).1
  fee : n = (sumA 0 (valsG g t.ins)).1 - (sumA 0 (t.outs.map (·.val))).1
theorem feeE_ok {g : Pt → PCn × Bool} {t : PTx} {h n : Int} (hf : feeE g t h = (n, .none)) : FeeOk g t h n := by
  unfold feeE at hf
  split at hf
  · cases hf
  · rename_i h1
    split at hf
    · cases hf
    · rename_i h2
      split at hf
      · cases hf
      · rename_i h3
        split at hf
        · cases hf
        · rename_i h4
          refine ⟨by simpa using h1, fun i x hx => ?_, by simpa using h3, by omega, (congrArg Prod.fst hf).symm⟩
          have := spEr_none h2 i x hx
          rw [Nat.zero_add] at this
          exact this
theorem feeE_of {g : Pt → PCn × Bool} {t : PTx} {h n : Int} (hf : FeeOk g t h n) : feeE g t h = (n, .none) := by
  have hs : spEr g t h 0 t.ins = none := spEr_no g t h t.ins 0 fun j y hy => by rw [Nat.zero_add]; exact hf.spent j y hy
  unfold feeE
  rw [if_neg (by simp [hf.form]), hs]
  show (if (sumA 0 (valsG g t.ins)).2 ≠ 0 then _ else if _ then _ else _) = _
  rw [if_neg (by simp [hf.sum]), if_neg (by have := hf.le; omega), hf.fee]
theorem feeE_shape (g : Pt → PCn × Bool) (t : PTx) (h : Int) : (∃ n, feeE g t h = (n, .none)) ∨ (∃ n, feeE g t h = (0, .num n) ∧ n ≠ 0) ∨ ∃ a n, feeE g t h = (0, .fault a n) ∧ n ≠ 0 := by
  unfold feeE
  split
  · rename_i hn; exact .inr (.inl ⟨_, rfl, hn⟩)
  · split
    · rename_i x hx; exact .inr (.inr ⟨_, _, rfl, spEr_ne hx⟩)
    · split
      · rename_i hn; exact .inr (.inl ⟨_, rfl, hn⟩)
      · split
        · exact .inr (.inl ⟨_, rfl, by decide⟩)
        · exact .inl ⟨_, rfl⟩
theorem formE_ok {t : PTx} (h : formE t = 0) : checkOf t = 0 ∧ baseOf t = false := by
  unfold formE at h
  split at h
  · rename_i h1; exact absurd h h1
  · rename_i h1
    split at h
    · cases h
    · rename_i h2; exact ⟨by simpa using h1, by simpa using h2⟩
theorem checkOf_ok {t : PTx} (h : checkOf t = 0) : countsOf t = true ∧ longOf t = false ∧ formedOf t = true ∧ (ptsOf t).Nodup ∧ (sumOf t).2 = 0 := by
  unfold checkOf at h
  split at h
  · rename_i h1
    split at h
    · cases h
    · rename_i h2
      split at h
      · rename_i h3
        split at h
        · cases h
        · rename_i h4
          refine ⟨h1, by simpa using h2, h3, ?_, h⟩
          refine Classical.byContradiction fun hn => h4 (dup_yes hn)
      · cases h
  · cases h
/-! ### sums -/
theorem sumA_sum : ∀ (l : List Int) (s : Int), (sumA s l).2 = 0 → (sumA s l).1 = s + l.sum ∧ ∀ a ∈ l, goodA a = true
  | [], s, _ => ⟨by simp [sumA], by simp⟩
  | a :: r, s, h => by
    unfold sumA at h ⊢
    split at h
    · rename_i hg
      rw [if_pos hg]
      have ih := sumA_sum r (s + a) h
      simp only [Bool.and_eq_true] at hg
      refine ⟨by rw [ih.1, List.sum_cons]; omega, fun b hb => ?_⟩
      rcases List.mem_cons.1 hb with rfl | hb
      · exact hg.1
      · exact ih.2 b hb
    · cases h
theorem sum_pre : ∀ (l : List Int) (k : Nat), (∀ a ∈ l, goodA a = true) → 0 ≤ (l.take k).sum ∧ (l.take k).sum ≤ l.sum
  | [], k, _ => by simp
  | a :: r, 0, h => by
    have ih := sum_pre r 0 fun b hb => h b (by simp [hb])
    have ha := (goodA_iff a).1 (h a (by simp))
    simp only [List.take_zero, List.sum_nil, List.sum_cons] at ih ⊢
    omega
  | a :: r, k + 1, h => by
    have ih := sum_pre r k fun b hb => h b (by simp [hb])
    have ha := (goodA_iff a).1 (h a (by simp))
    simp only [List.take_succ_cons, List.sum_cons]
    omega
theorem sum_step {l : List Int} {k : Nat} {a : Int} (h : l[k]? = some a) : (l.take (k + 1)).sum = (l.take k).sum + a := by
  rw [List.take_add_one, h]
  simp
/-! ### taking -/
theorem lkP_val {α : Type} (p : Pt) : ∀ (l : List (Pt × α × Nat)) (i j : Nat), (lkP p i l).map (·.2) = (lkP p j l).map (·.2)
  | [], _, _ => rfl
  | x :: r, i, j => by
    unfold lkP
    split
    · rfl
    · exact lkP_val p r (i + 1) (j + 1)
theorem lkP_erase {α : Type} (p : Pt) : ∀ (l : List (Pt × α × Nat)) (i j k : Nat) (e : Pt × α × Nat), l[k]? = some e → e.1 ≠ p → (lkP p i (l.eraseIdx k)).map (·.2) = (lkP p j l).map (·.2)
  | [], i, j, k, e, h, _ => by simp at h
  | x :: r, i, j, 0, e, h, hn => by
    obtain rfl : x = e := by simpa using h
    rw [List.eraseIdx_zero, List.tail_cons]
    conv => rhs; unfold lkP
    rw [if_neg (fun e => hn e.symm)]
    exact lkP_val p r i (j + 1)
  | x :: r, i, j, k + 1, e, h, hn => by
    rw [List.eraseIdx_cons_succ]
    unfold lkP
    split
    · rfl
    · exact lkP_erase p r (i + 1) (j + 1) k e (by simpa using h) hn
theorem getP_map {α : Type} {z : α} {p : Pt} {l : List (Pt × α × Nat)} : getP z p l = match (lkP p 0 l).map (·.2) with | some v => (v, true) | none => (z, false) := by
  unfold getP
  cases lkP p 0 l <;> rfl
theorem getP_take {p q : Pt} {l : CL} (hn : q ≠ p) : getP noCn p (takL l q) = getP noCn p l := by
  unfold takL
  cases hq : lkP q 0 l with
  | none => rfl
  | some x =>
    obtain ⟨j, s, h1, h2⟩ := lkP_spec q l 0 x hq
    dsimp only
    rw [getP_map, getP_map, h1, Nat.zero_add, lkP_erase p l 0 0 j _ h2 hn]
theorem takE_of {p : Pt} {l : CL} (h : (getP noCn p l).2 = true) : takE l p = ((getP noCn p l).1, 0) := by
  obtain ⟨i, hi⟩ := getP_some h
  unfold takE
  rw [hi]
theorem getP_taken {p : Pt} {l : CL} {c : Nat} (hw : PWf l c) : getP noCn p (takL l p) = (noCn, false) := by
  unfold takL
  cases hq : lkP p 0 l with
  | none => dsimp only; unfold getP; rw [hq]
  | some x =>
    obtain ⟨j, s, h1, h2⟩ := lkP_spec p l 0 x hq
    dsimp only
    rw [h1, Nat.zero_add]
    have hk : ∀ e ∈ l.eraseIdx j, e.1 ≠ p := by
      intro e he hep
      obtain ⟨i, hi⟩ := List.mem_iff_getElem?.1 he
      rw [List.getElem?_eraseIdx] at hi
      have hnd := hw.keys
      have hinj := List.pairwise_iff_getElem.1 hnd
      split at hi
      · rename_i hlt
        obtain ⟨a1, a2⟩ := List.getElem?_eq_some_iff.1 hi
        obtain ⟨b1, b2⟩ := List.getElem?_eq_some_iff.1 h2
        have := hinj i j (by simpa using a1) (by simpa using b1) (by omega)
        simp [a2, b2, hep] at this
      · rename_i hlt
        obtain ⟨a1, a2⟩ := List.getElem?_eq_some_iff.1 hi
        obtain ⟨b1, b2⟩ := List.getElem?_eq_some_iff.1 h2
        have := hinj j (i + 1) (by simpa using b1) (by simpa using a1) (by omega)
        simp [a2, b2, hep] at this
    have hno : ∀ (r : CL) (i : Nat), (∀ e ∈ r, e.1 ≠ p) → lkP p i r = none := by
      intro r
      induction r with
      | nil => intro i _; rfl
      | cons x r ih =>
        intro i h
        unfold lkP
        rw [if_neg (fun e => h x (by simp) e.symm)]
        exact ih (i + 1) fun e he => h e (by simp [he])
    unfold getP
    rw [hno _ 0 hk]
end Go.Proofs.YtelindgnkpfkiaaGreatDoor
