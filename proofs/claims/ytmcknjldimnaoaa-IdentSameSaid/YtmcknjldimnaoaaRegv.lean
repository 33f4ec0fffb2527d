/-
  A region that draws its order, by what is known of each operation's value and of the world behind each set of operations. Conditions: those named in wp_region_vals.
-/
import Derived.Test.YtmcknjldimnaoaaReg
namespace Go.Proofs.Ytmcknjldimnaoaa
open Go.RowKit Go.BigFrame
set_option linter.unusedVariables false

/-- Where just the operations of L have been run: the values. -/
structure Vals (R : Nat → List Value → Value → Prop) (l : List Oper) (L : Nat → Prop) (xs : List Value) : Prop where
  len : xs.length = l.length
  closed : ∀ j, L j → ∀ d, (deps l j).contains d = true → L d
  lt : ∀ j, L j → j < l.length
  rel : ∀ j, L j → R j ((deps l j).map fun d => xs.getD d undef) (xs.getD j undef)
section
variable {P : Program} {R : Nat → List Value → Value → Prop} {l : List Oper} {L : Nat → Prop} {xs : List Value}
theorem Vals.step (h : Vals R l L xs) {i : Nat} (hin : i < l.length) (hni : ¬ L i) (hpre : ∀ d, (deps l i).contains d = true → L d) {v : Value} (hr : R i ((deps l i).map fun d => xs.getD d undef) v) :
    Vals R l (fun j => j = i ∨ L j) (xs.set i v) := by
  have hget : ∀ j, L j → (xs.set i v).getD j undef = xs.getD j undef := by
    intro j hj
    have hne : i ≠ j := fun e => hni (e ▸ hj)
    simp [List.getD, List.getElem?_set_ne hne]
  have hself : (xs.set i v).getD i undef = v := by
    have : i < xs.length := by rw [h.len]; exact hin
    simp [List.getD, this]
  have hmap : ∀ j, (j = i ∨ L j) → ((deps l j).map fun d => (xs.set i v).getD d undef) = (deps l j).map fun d => xs.getD d undef := by
    intro j hj
    refine List.map_congr_left fun d hd => hget d ?_
    have hc : (deps l j).contains d = true := by simpa using hd
    rcases hj with rfl | hj
    · exact hpre d hc
    · exact h.closed j hj d hc
  refine ⟨by rw [List.length_set]; exact h.len, ?_, ?_, ?_⟩
  · rintro j (rfl | hj) d hd
    · exact .inr (hpre d hd)
    · exact .inr (h.closed j hj d hd)
  · rintro j (rfl | hj)
    · exact hin
    · exact h.lt j hj
  · rintro j (rfl | hj)
    · rw [hself, hmap j (.inl rfl)]
      exact hr
    · rw [hget j hj, hmap j (.inr hj)]
      exact h.rel j hj

theorem wp_region_vals (R : Nat → List Value → Value → Prop) (W : (Nat → Prop) → World → Prop) {id : Nat} {Q : Exit → Act → World → Prop} {a0 : Act} {w0 : World} (hm : P.follows .mixedOrders = true) (hb : backB .any l.toArray = true)
    (hg : (l.all fun o => o.guard.isNone) = true) (hd : dstB l = true)
    (h0 : W (fun _ => False) w0.drew)
    (hstep : ∀ i o, i < l.length → l[i]? = some o → ∀ (L : Nat → Prop) (xs : List Value) (w : World), Vals R l L xs → W L w → ¬ L i → (∀ d, (deps l i).contains d = true → L d) →
      o.wp P (putAll a0 l xs) w (fun a' w' => ∃ v, a' = (putAll a0 l xs).put o.dst v ∧ R i ((deps l i).map fun d => xs.getD d undef) v ∧ W (fun j => j = i ∨ L j) w') (fun _ _ _ => False))
    (hend : ∀ (xs : List Value) (w : World), Vals R l (fun j => j < l.length) xs → W (fun j => j < l.length) w → Q .normal (putAll a0 l xs) w) :
    (Code.region id l.toArray true).wp P Q a0 w0 := by
  refine wp_region_inv2 (fun L a w => ∃ xs, a = putAll a0 l xs ∧ Vals R l L xs ∧ W L w) hm hb ?_ ?_ ?_
  · refine ⟨(ownVals a0 l).take l.length, (putAll_own l a0 _).symm, ⟨by simp [ownVals], fun _ h => h.elim, fun _ h => h.elim, fun _ h => h.elim⟩, h0⟩
  · rintro L i a w hil hni hpre ⟨xs, rfl, hv, hw⟩
    obtain ⟨o, ho⟩ : ∃ o, l[i]? = some o := ⟨_, List.getElem?_eq_getElem hil⟩
    have hoa : l.toArray[i]? = some o := by simpa using ho
    have hgo : o.guard = none := by
      have := List.all_eq_true.1 hg o (List.mem_of_getElem? ho)
      simpa using this
    unfold wpOp
    rw [hoa]
    simp only [Region.wanted, hgo, if_true]
    refine .inl (wp_weaken ?_ (fun _ _ _ h => h.elim) (fun ⟨_, _, h⟩ => h.elim) (hstep i o hil ho L xs w hv hw hni hpre))
    rintro a' w' ⟨v, rfl, hr, hw'⟩
    rw [putAll_put l xs a0 i o v hd ho (by rw [hv.len]; exact hil)]
    exact ⟨_, rfl, hv.step hil hni hpre hr, hw'⟩
  · rintro L a w hall ⟨xs, rfl, hv, hw⟩
    have he : L = fun j => j < l.length := by
      funext j
      exact propext ⟨hv.lt j, hall j⟩
    subst he
    exact hend xs w hv hw
/-- One operation whose run is known. -/
theorem vstep_run {R : Nat → List Value → Value → Prop} {W : (Nat → Prop) → World → Prop} {L : Nat → Prop} {o : Oper} {a : Act} {w w' : World} {i : Nat} (v : Value) (hrun : (execOp a.eval o).run P w = .ok (.value v) w')
    (hr : R i ((deps l i).map fun d => xs.getD d undef) v) (hw : W (fun j => j = i ∨ L j) w') :
    o.wp P a w (fun a' w' => ∃ v, a' = a.put o.dst v ∧ R i ((deps l i).map fun d => xs.getD d undef) v ∧ W (fun j => j = i ∨ L j) w') (fun _ _ _ => False) :=
  opv_run hrun ⟨v, rfl, hr, hw⟩
/-- One that stores. -/
theorem vstep_skip {R : Nat → List Value → Value → Prop} {W : (Nat → Prop) → World → Prop} {L : Nat → Prop} {o : Oper} {a : Act} {w w' : World} {i : Nat} (hrun : (execOp a.eval o).run P w = .ok .skip w')
    (hr : R i ((deps l i).map fun d => xs.getD d undef) undef) (hw : W (fun j => j = i ∨ L j) w') :
    o.wp P a w (fun a' w' => ∃ v, a' = a.put o.dst v ∧ R i ((deps l i).map fun d => xs.getD d undef) v ∧ W (fun j => j = i ∨ L j) w') (fun _ _ _ => False) :=
  op_skip hrun ⟨undef, rfl, hr, hw⟩
end
end Go.Proofs.Ytmcknjldimnaoaa
