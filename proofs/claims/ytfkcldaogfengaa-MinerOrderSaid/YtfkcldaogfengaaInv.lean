/-
  A region that draws its order, by what holds behind each set of its operations. Conditions: those named in wp_region_inv.
-/
import Derived.Test.YtfkcldaogfengaaTail
namespace Go.Proofs.Ytfkcldaogfengaa
open Go.RowKit Go.BigFrame
set_option linter.unusedVariables false

section
variable {P : Program}
theorem getD_set_iff {l : Array Bool} {i j : Nat} (hi : i < l.size) : (l.setIfInBounds i true).getD j false = true ↔ (j = i ∨ l.getD j false = true) := by
  by_cases h : j = i
  · subst h
    simp [hi]
  · rw [Array.getD_eq_getD_getElem?, Array.getElem?_setIfInBounds_ne (Ne.symm h), ← Array.getD_eq_getD_getElem?]
    simp [h]
theorem getD_flip {l : Array Bool} {i : Nat} (hi : i < l.size) (b c : Bool) : l.getD i b = l.getD i c := by simp [Array.getD, hi]
theorem count_set_true {l : Array Bool} {i : Nat} (hi : i < l.size) (h : l.getD i true = false) : (l.setIfInBounds i true).toList.count false + 1 = l.toList.count false := by
  have hl : l.toList[i]'(by simpa using hi) = false := by
    have := h
    simpa [Array.getD, hi] using this
  have hpos : 0 < l.toList.count false := List.count_pos_iff.2 (by rw [← hl]; exact List.getElem_mem _)
  rw [Array.toList_setIfInBounds, List.count_set (by simpa using hi), hl]
  have e1 : (false == false) = true := rfl
  rw [if_pos e1, if_neg (by simp)]
  omega

/-- **A REGION THAT DRAWS ITS ORDER, BY AN INVARIANT.** I L a w: what holds where just the operations of L have been run. -/
theorem wp_region_inv (I : (Nat → Prop) → Act → World → Prop) {id : Nat} {l : List Oper} {Q : Exit → Act → World → Prop} {a : Act} {w : World} (hm : P.follows .mixedOrders = true) (hb : backB .any l.toArray = true)
    (hg : (l.all fun o => o.guard.isNone) = true) (h0 : I (fun _ => False) a w.drew)
    (hstep : ∀ (L : Nat → Prop) (i : Nat) (o : Oper) (a : Act) (w : World), l[i]? = some o → ¬ L i → (∀ e ∈ o.after, Region.binds .any e = true → L e.on) → I L a w →
      o.wp P a w (fun a' w' => I (fun j => j = i ∨ L j) a' w') (fun _ _ _ => False))
    (hend : ∀ (L : Nat → Prop) (a : Act) (w : World), (∀ j, j < l.length → L j) → I L a w → Q .normal a w) :
    (Code.region id l.toArray true).wp P Q a w := by
  have main : ∀ (fuel : Nat) (listed : Array Bool) (a : Act) (w : World), listed.size = l.toArray.size → listed.toList.count false ≤ fuel → I (fun j => listed.getD j false = true) a w →
      wpAny P .any l.toArray Q fuel listed a w := by
    intro fuel
    induction fuel with
    | zero =>
      intro listed a w hsz hc hI
      have hall : ∀ j, j < listed.size → listed.getD j false = true := fun j hj => by
        cases hx : listed.getD j false with
        | true => rfl
        | false =>
          exfalso
          have h1 := count_set_true hj (by rw [getD_flip hj true false]; exact hx)
          omega
      refine ⟨?_, hend _ a w (fun j hj => hall j (by rw [hsz]; simpa using hj)) hI⟩
      rw [List.eq_nil_iff_forall_not_mem]
      intro j hj
      obtain ⟨h1, x, hx, _⟩ := mem_ready.1 hj
      have hjl : j < listed.size := by rw [hsz]; exact (Array.getElem?_eq_some_iff.1 hx).1
      rw [getD_flip hjl true false, hall j hjl] at h1
      cases h1
    | succ fuel ih =>
      intro listed a w hsz hc hI
      refine ⟨fun he => hend _ a w (fun j hj => ?_) hI, fun i hi => ?_⟩
      · have hjl : j < listed.size := by rw [hsz]; simpa using hj
        cases hx : listed.getD j false with
        | true => rfl
        | false => exact absurd he (some_ready hb listed hsz j (by rw [← hsz]; exact hjl) (by rw [getD_flip hjl true false]; exact hx))
      · obtain ⟨h1, x, hx, h2⟩ := mem_ready.1 hi
        have hil : i < listed.size := by rw [hsz]; exact (Array.getElem?_eq_some_iff.1 hx).1
        have hxl : l[i]? = some x := by simpa using hx
        have hgx : x.guard = none := by
          have := List.all_eq_true.1 hg x (List.mem_of_getElem? hxl)
          simpa using this
        have hs := hstep (fun j => listed.getD j false = true) i x a w hxl (by rw [getD_flip hil false true, h1]; simp) h2 hI
        unfold wpOp
        rw [hx]
        simp only [Region.wanted, hgx, if_true]
        refine .inl (wp_weaken (fun a' w' hK => ?_) (fun _ _ _ h => h.elim) (fun ⟨_, _, h⟩ => h.elim) hs)
        refine ih _ a' w' (by simpa using hsz) (by have := count_set_true hil h1; omega) ?_
        have he : (fun j => (listed.setIfInBounds i true).getD j false = true) = fun j => j = i ∨ listed.getD j false = true := by
          funext j
          exact propext (getD_set_iff hil)
        rw [he]
        exact hK
  refine wp_region_any hm (main _ _ a _ (by simp) (by simp) ?_)
  have he : (fun j => (Array.replicate l.toArray.size false).getD j false = true) = fun _ => False := by
    funext j
    apply propext
    refine ⟨fun h => ?_, fun h => h.elim⟩
    have h1 : (Array.replicate l.toArray.size false).getD j false = false := by simp [Array.getD]
    rw [h1] at h
    cases h
  rw [he]
  exact h0
/-- The same, told from the frame at the region's start. -/
theorem wp_region_inv_at (J : Act → (Nat → Prop) → Act → World → Prop) {id : Nat} {l : List Oper} {Q : Exit → Act → World → Prop} {a : Act} {w : World} (hm : P.follows .mixedOrders = true) (hb : backB .any l.toArray = true)
    (hg : (l.all fun o => o.guard.isNone) = true) (h0 : J a (fun _ => False) a w.drew)
    (hstep : ∀ (L : Nat → Prop) (i : Nat) (o : Oper) (a' : Act) (w' : World), l[i]? = some o → ¬ L i → (∀ e ∈ o.after, Region.binds .any e = true → L e.on) → J a L a' w' →
      o.wp P a' w' (fun a'' w'' => J a (fun j => j = i ∨ L j) a'' w'') (fun _ _ _ => False))
    (hend : ∀ (L : Nat → Prop) (a' : Act) (w' : World), (∀ j, j < l.length → L j) → J a L a' w' → Q .normal a' w') :
    (Code.region id l.toArray true).wp P Q a w := wp_region_inv (J a) hm hb hg h0 hstep hend
end
end Go.Proofs.Ytfkcldaogfengaa
