/-
  A region that draws its order, some operations of which are guarded, by what is known of each operation's value and of the world behind each set of operations. Conditions: those named in wp_region_valsg.
-/
import Derived.Test.YtaooibocknemkaaQ9RecBack
namespace Go.Proofs.Ytaooibocknemkaa
open Go.RowKit Go.BigFrame
set_option linter.unusedVariables false
section
variable {P : Program} {R : Nat → List Value → Value → Prop} {l : List Oper} {L : Nat → Prop} {xs : List Value}
theorem wp_region_valsg (R : Nat → List Value → Value → Prop) (W : (Nat → Prop) → World → Prop) {id : Nat} {Q : Exit → Act → World → Prop} {a0 : Act} {w0 : World} (hm : P.follows .mixedOrders = true) (hb : backB .any l.toArray = true)
    (hd : dstB l = true)
    (h0 : W (fun _ => False) w0.drew)
    (hstep : ∀ i o, i < l.length → l[i]? = some o → ∀ (L : Nat → Prop) (xs : List Value) (w : World), Vals R l L xs → W L w → ¬ L i → (∀ d, (deps l i).contains d = true → L d) →
      (Region.wanted o (yielded l.toArray (putAll a0 l xs).tmps) = true ∧ o.wp P (putAll a0 l xs) w (fun a' w' => ∃ v, a' = (putAll a0 l xs).put o.dst v ∧ R i ((deps l i).map fun d => xs.getD d undef) v ∧ W (fun j => j = i ∨ L j) w') (fun _ _ _ => False)) ∨
      (Region.wanted o (yielded l.toArray (putAll a0 l xs).tmps) = false ∧ R i ((deps l i).map fun d => xs.getD d undef) undef ∧ W (fun j => j = i ∨ L j) w))
    (hend : ∀ (xs : List Value) (w : World), Vals R l (fun j => j < l.length) xs → W (fun j => j < l.length) w → Q .normal (putAll a0 l xs) w) :
    (Code.region id l.toArray true).wp P Q a0 w0 := by
  refine wp_region_inv2 (fun L a w => ∃ xs, a = putAll a0 l xs ∧ Vals R l L xs ∧ W L w) hm hb ?_ ?_ ?_
  · refine ⟨(ownVals a0 l).take l.length, (putAll_own l a0 _).symm, ⟨by simp [ownVals], fun _ h => h.elim, fun _ h => h.elim, fun _ h => h.elim⟩, h0⟩
  · rintro L i a w hil hni hpre ⟨xs, rfl, hv, hw⟩
    obtain ⟨o, ho⟩ : ∃ o, l[i]? = some o := ⟨_, List.getElem?_eq_getElem hil⟩
    have hoa : l.toArray[i]? = some o := by simpa using ho
    unfold wpOp
    rw [hoa]
    dsimp only
    rcases hstep i o hil ho L xs w hv hw hni hpre with ⟨hg, hs⟩ | ⟨hg, hr, hw'⟩
    · rw [if_pos hg]
      refine .inl (wp_weaken ?_ (fun _ _ _ h => h.elim) (fun ⟨_, _, h⟩ => h.elim) hs)
      rintro a' w' ⟨v, rfl, hr, hw'⟩
      rw [putAll_put l xs a0 i o v hd ho (by rw [hv.len]; exact hil)]
      exact ⟨_, rfl, hv.step hil hni hpre hr, hw'⟩
    · rw [if_neg (by rw [hg]; decide)]
      rw [putAll_put l xs a0 i o undef hd ho (by rw [hv.len]; exact hil)]
      exact ⟨_, rfl, hv.step hil hni hpre hr, hw'⟩
  · rintro L a w hall ⟨xs, rfl, hv, hw⟩
    have he : L = fun j => j < l.length := by
      funext j
      exact propext ⟨hv.lt j, hall j⟩
    subst he
    exact hend xs w hv hw
/-- A call. -/
theorem vstep_call {R : Nat → List Value → Value → Prop} {W : (Nat → Prop) → World → Prop} {L : Nat → Prop} {o : Oper} {a : Act} {w : World} {i : Nat} {f : FuncId} {args : Array Value} {E : Ending → World → Prop} (hc : Calls P f args w E)
    (hrun : (execOp a.eval o).run P w = .ok (.enter f args) w)
    (hK : ∀ e w', E e w' → ∃ v, e = .returned v ∧ R i ((deps l i).map fun d => xs.getD d undef) v ∧ W (fun j => j = i ∨ L j) w') :
    o.wp P a w (fun a' w' => ∃ v, a' = a.put o.dst v ∧ R i ((deps l i).map fun d => xs.getD d undef) v ∧ W (fun j => j = i ∨ L j) w') (fun _ _ _ => False) :=
  op_call hrun hc fun e w' hE => let ⟨v, he, hr, hw⟩ := hK e w' hE; ⟨v, he, v, rfl, hr, hw⟩
/-- A whole row is loaded, or stored. -/
theorem vstep_lrow {R : Nat → List Value → Value → Prop} {W : (Nat → Prop) → World → Prop} {L : Nat → Prop} {o : Oper} {a : Act} {w : World} {i : Nat} (ty : TypeId) (x : Operand) (g : Nat) (t : TypeId) (cs : Array Value) (fr : Nat × Nat) (d : TypeDesc)
    (hu : P.underlying ty = some d) (hd : (match d with | .struct _ | .array _ _ => true | _ => false) = true)
    (ho : o.op = .load ty x) (hx : a.eval x = .pointer (some ⟨g, 0, none⟩)) (hg : w.heap[g]? = some (.cells cs t fr)) (hi : (P.info? ty).map (·.size) = some cs.size)
    (hr : R i ((deps l i).map fun d => xs.getD d undef) (.agg cs)) (hw : W (fun j => j = i ∨ L j) w) :
    o.wp P a w (fun a' w' => ∃ v, a' = a.put o.dst v ∧ R i ((deps l i).map fun d => xs.getD d undef) v ∧ W (fun j => j = i ∨ L j) w') (fun _ _ _ => False) :=
  Go.wp_load_row ty x ho g hx t cs fr d hg hu hd hi ⟨.agg cs, rfl, hr, hw⟩
theorem vstep_srow {R : Nat → List Value → Value → Prop} {W : (Nat → Prop) → World → Prop} {L : Nat → Prop} {o : Oper} {a : Act} {w : World} {i : Nat} (ty : TypeId) (x y : Operand) (g : Nat) (cells : Array Value) (t : TypeId) (old : Array Value)
    (ho : o.op = .store ty x y) (hx : a.eval x = .pointer (some ⟨g, 0, none⟩)) (hy : a.eval y = .agg cells)
    (hg : w.heap[g]? = some (.cells old t (0, 0))) (hi : (P.info? ty).map (·.size) = some cells.size) (hold : old.size = cells.size) (h1 : cells.all (·.oneCell') = true)
    (hr : R i ((deps l i).map fun d => xs.getD d undef) undef) (hw : W (fun j => j = i ∨ L j) (w.setRow g cells)) :
    o.wp P a w (fun a' w' => ∃ v, a' = a.put o.dst v ∧ R i ((deps l i).map fun d => xs.getD d undef) v ∧ W (fun j => j = i ∨ L j) w') (fun _ _ _ => False) :=
  Go.wp_store_row ty x y ho g cells hx hy t old hg hi hold h1 ⟨undef, rfl, hr, hw⟩
end
end Go.Proofs.Ytaooibocknemkaa
