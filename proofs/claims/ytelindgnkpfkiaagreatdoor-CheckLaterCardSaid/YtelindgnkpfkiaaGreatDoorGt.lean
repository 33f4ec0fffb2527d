/-
  A transaction of which one witness is another; a fee in a later height; a fee with one coin gone. Conditions: none.
-/
import Derived.Test.YtelindgnkpfkiaaGreatDoorGr
namespace Go.Proofs.YtelindgnkpfkiaaGreatDoor
open Go.RowKit Go.BigFrame
set_option linter.unusedVariables false
set_option linter.unusedSimpArgs false

theorem ripe_later {t : PTx} {i c h h' : Int} (hr : ripeOf t i c h = true) (hle : h ≤ h') (hm : h' ≤ 1000000) : ripeOf t i c h' = true := by
  unfold ripeOf at *
  simp only [Bool.and_eq_true, Bool.or_eq_true, decide_eq_true_eq, okHeight] at *
  obtain ⟨⟨⟨⟨h1, h2⟩, h3⟩, h4⟩, h5⟩ := hr
  refine ⟨⟨⟨⟨h1, h2⟩, by omega⟩, by omega⟩, ?_⟩
  rcases h5 with h5 | h5
  · exact .inl (by omega)
  · exact .inr h5
theorem fee_later {g : Pt → PCn × Bool} {t : PTx} {h h' n : Int} (hf : FeeOk g t h n) (hle : h ≤ h') (hm : h' ≤ 1000000) : FeeOk g t h' n := by
  refine ⟨hf.form, fun i x hx => ?_, hf.sum, hf.le, hf.fee⟩
  obtain ⟨h1, h2, h3⟩ := spentR_ok (hf.spent i x hx)
  exact spentR_of h1 h2 (ripe_later h3 hle hm)
/-- One coin is gone. -/
theorem fee_gone {g g' : Pt → PCn × Bool} {t : PTx} {h n : Int} (hf : FeeOk g t h n) {q : Nat} {x : PIn} (hx : t.ins[q]? = some x) (hg : ∀ j y, t.ins[j]? = some y → j ≠ q → g' (y.id, y.idx) = g (y.id, y.idx)) (hq : (g' (x.id, x.idx)).2 = false) : feeE g' t h = (0, .fault q 8) := by
  have h8 : (spentR (g' (x.id, x.idx)) t q h).2 = 8 := by
    unfold spentR
    rw [if_pos hq]
  have := feeE_fault (g := g') (t := t) (h := h) hf.form (k := q) (x := x) hx (fun j y hj hy => by rw [hg j y hy (by omega)]; exact hf.spent j y hy) (by rw [h8]; decide)
  rw [this, h8]

def witAt (t : PTx) (q : Nat) (x : PIn) : PTx := { t with ins := t.ins.set q { x with wit := [signW 0 999] } }
section
variable {t : PTx} {q : Nat} {x : PIn}
theorem wa_map {β : Type} (f : PIn → β) (hx : t.ins[q]? = some x) (hf : f { x with wit := [signW 0 999] } = f x) : (witAt t q x).ins.map f = t.ins.map f := by
  unfold witAt
  apply List.ext_getElem?
  intro j
  rw [List.getElem?_map, List.getElem?_map]
  by_cases hj : q = j
  · subst hj
    rw [List.getElem?_set_self (List.getElem?_eq_some_iff.1 hx).1, hx]
    show some _ = some _
    rw [hf]
  · rw [List.getElem?_set_ne hj]
theorem wa_len : (witAt t q x).ins.length = t.ins.length := by unfold witAt; rw [List.length_set]
theorem wa_ne {j : Nat} (h : j ≠ q) : (witAt t q x).ins[j]? = t.ins[j]? := by unfold witAt; rw [List.getElem?_set_ne (Ne.symm h)]
theorem wa_at (hx : t.ins[q]? = some x) : (witAt t q x).ins[q]? = some { x with wit := [signW 0 999] } := by unfold witAt; rw [List.getElem?_set_self (List.getElem?_eq_some_iff.1 hx).1]
theorem wa_mem {z : PIn} (h : z ∈ (witAt t q x).ins) : z ∈ t.ins ∨ z = { x with wit := [signW 0 999] } := List.mem_or_eq_of_mem_set h
theorem wa_waits (hx : t.ins[q]? = some x) (j : Nat) : waitsOf (witAt t q x) j = waitsOf t j := by
  unfold waitsOf
  by_cases hj : j = q
  · subst hj
    rw [wa_at hx, hx]
    rfl
  · rw [wa_ne hj]
    rfl
theorem wa_isIn (i : Int) : isIn (witAt t q x) i = isIn t i := by unfold isIn; rw [wa_len]
theorem wa_ripe (hx : t.ins[q]? = some x) (i c h : Int) : ripeOf (witAt t q x) i c h = ripeOf t i c h := by
  have h1 : (witAt t q x).ins.all lastSeq = t.ins.all lastSeq := by
    have e : lastSeq = (fun s => decide (s = 4294967295)) ∘ PIn.seq := rfl
    rw [e, ← List.all_map, ← List.all_map, wa_map PIn.seq hx rfl]
  unfold ripeOf
  rw [wa_isIn, wa_waits hx, h1]
  rfl
theorem wa_open {j : Nat} (hx : t.ins[q]? = some x) (hj : j ≠ q) (s : ByteArray) : openOf s (witAt t q x) j = openOf s t j := by
  unfold openOf
  rw [wa_isIn, show ((j : Int).toNat) = j from rfl, wa_ne hj]
  cases t.ins[j]? with
  | none => rfl
  | some y =>
    unfold openAt
    rw [wa_waits hx]
    rfl
theorem wa_form (hx : t.ins[q]? = some x) (hf : formE t = 0) : formE (witAt t q x) = 0 := by
  obtain ⟨hc, hb⟩ := formE_ok hf
  obtain ⟨c1, c2, c3, c4, c5⟩ := checkOf_ok hc
  have hxm : x ∈ t.ins := List.mem_of_getElem? hx
  have d1 : countsOf (witAt t q x) = true := by
    unfold countsOf at *
    rw [wa_len]
    simp only [Bool.and_eq_true, Bool.not_eq_true', List.any_eq_false] at c1 ⊢
    refine ⟨c1.1, fun z hz => ?_⟩
    rcases wa_mem hz with hz | rfl
    · exact c1.2 z hz
    · simp
  have d2 : longOf (witAt t q x) = false := by
    unfold longOf at *
    simp only [Bool.or_eq_false_iff, List.any_eq_false] at c2 ⊢
    refine ⟨c2.1, fun z hz => ?_⟩
    rcases wa_mem hz with hz | rfl
    · exact c2.2 z hz
    · simp [longIn, signW_size]
  have d3 : formedOf (witAt t q x) = true := by
    unfold formedOf at *
    rw [wa_len]
    rw [List.all_eq_true] at c3 ⊢
    intro z hz
    rcases wa_mem hz with hz | rfl
    · exact c3 z hz
    · exact c3 x hxm
  have d4 : dup (ptsOf (witAt t q x)) = false := by
    have : ptsOf (witAt t q x) = ptsOf t := wa_map (fun x => (x.id, x.idx)) hx rfl
    rw [this]
    exact dup_no c4
  have d5 : baseOf (witAt t q x) = false := by
    cases hbb : baseOf (witAt t q x) with
    | false => rfl
    | true =>
      have h1 : t.ins.length = 1 := by
        have : (witAt t q x).ins.length = 1 := by
          unfold baseOf at hbb
          split at hbb
          · rename_i h; rw [h]; rfl
          · cases hbb
        rw [wa_len] at this
        exact this
      have hq : q = 0 := by have := (List.getElem?_eq_some_iff.1 hx).1; omega
      subst hq
      rw [baseOf_one (by rw [wa_len]; exact h1) (wa_at hx)] at hbb
      rw [baseOf_one h1 hx] at hb
      exact absurd hbb (by simpa using hb)
  exact form_ok (by unfold checkOf; rw [d1, d2, d3, d4]; exact c5) d5
theorem signed999 : signedOf [signW 0 999] = some (0, 999) := by kernel_rfl
theorem wa_lock {s : ByteArray} {l : List PBr} {br : PBr} (hx : t.ins[q]? = some x) (hl : lockGet s = some l) (hb : l[0]? = some br) (h0 : br.tag ≠ 0) (h9 : br.tag ≠ 999) : openOf s (witAt t q x) q = 9 := by
  rw [openOf_at (wa_at hx)]
  have : (chosenOf s [signW 0 999]).2 = false := by
    unfold chosenOf
    rw [hl, signed999]
    dsimp only
    rw [hb]
    dsimp only
    simp [h0, h9]
  unfold openAt
  rw [if_pos this]
/-- By another tag the lock stays shut. -/
theorem fee_shut {g : Pt → PCn × Bool} {h n : Int} (hf : FeeOk g t h n) (hx : t.ins[q]? = some x) {l : List PBr} {br : PBr} (hl : lockGet (g (x.id, x.idx)).1.script = some l) (hb : l[0]? = some br) (h0 : br.tag ≠ 0) (h9 : br.tag ≠ 999) : feeE g (witAt t q x) h = (0, .fault q 9) := by
  have hat := wa_at hx
  have ho := wa_lock hx hl hb h0 h9
  have h2 := (spentR_ok (hf.spent q x hx)).1
  have hs : (spentR (g (x.id, x.idx)) (witAt t q x) q h).2 = 9 := by
    unfold spentR
    rw [if_neg (by simp [h2]), if_pos (by rw [ho]; decide), ho]
  have := feeE_fault (g := g) (t := witAt t q x) (h := h) (wa_form hx hf.form) (k := q) hat (fun j y hj hy => by
    rw [wa_ne (by omega)] at hy
    obtain ⟨a1, a2, a3⟩ := spentR_ok (hf.spent j y hy)
    exact spentR_of a1 (by rw [wa_open hx (by omega)]; exact a2) (by rw [wa_ripe hx]; exact a3)) (by
    show (spentR (g (x.id, x.idx)) (witAt t q x) q h).2 ≠ 0
    rw [hs]; decide)
  rw [this]
  show ((0 : Int), PEr.fault q (spentR (g (x.id, x.idx)) (witAt t q x) q h).2) = _
  rw [hs]
theorem open_get {s : ByteArray} {k : Nat} (h : openOf s t k = 0) : ∃ l, lockGet s = some l := by
  unfold openOf at h
  split at h
  · split at h
    · unfold openAt at h
      split at h
      · cases h
      · rename_i hc
        unfold chosenOf at hc
        split at hc
        · rename_i l a b c d
          exact ⟨l, by assumption⟩
        · simp at hc
    · cases h
  · cases h
end
end Go.Proofs.YtelindgnkpfkiaaGreatDoor
