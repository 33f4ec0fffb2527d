/-
  A region that draws its order, whose operations but the last read or call quietly (each call may make memory), and whose last operation waits for all others: one walk in the order of the text serves every order. Conditions: those named in wp_region_last.
-/
import Derived.Test.YtfkcldaogfengaaBase
import Derived.StillTail
import Derived.BigQuiet
import Derived.Deep.QuietTactic
namespace Go.Proofs.Ytfkcldaogfengaa
open Go.RowKit Go.BigFrame
set_option linter.unusedVariables false

/-- The last operation, struck out. -/
def struck (o : Oper) : Oper := { o with op := .move (.const undef), guard := none }
def headOps (ops : Array Oper) (n : Nat) (o : Oper) : Array Oper := ops.setIfInBounds n (struck o)

section
variable {P : Program} {ops : Array Oper} {md : Region.Mode} {n : Nat} {o : Oper}

theorem head_ne {i : Nat} (h : i ≠ n) : (headOps ops n o)[i]? = ops[i]? := by simp [headOps, Array.getElem?_setIfInBounds_ne (Ne.symm h)]
theorem head_at (ho : ops[n]? = some o) : (headOps ops n o)[n]? = some (struck o) := by
  have := (Array.getElem?_eq_some_iff.1 ho).1
  simp [headOps, this]
theorem head_ready (ho : ops[n]? = some o) (listed : Array Bool) : Region.ready md (headOps ops n o) listed = Region.ready md ops listed := by
  unfold Region.ready
  have hs : (headOps ops n o).size = ops.size := by simp [headOps]
  rw [hs]
  congr 1
  funext i
  by_cases h : i = n
  · subst h; rw [head_at ho, ho]; rfl
  · rw [head_ne h]
theorem head_yielded (ho : ops[n]? = some o) (tmps : Array Value) : yielded (headOps ops n o) tmps = yielded ops tmps := by
  funext j
  unfold yielded
  by_cases h : j = n
  · subst h; rw [head_at ho, ho]; rfl
  · rw [head_ne h]

/-- Every edge goes back. -/
def backB (md : Region.Mode) (ops : Array Oper) : Bool := (List.range ops.size).all fun i => match ops[i]? with | some o => o.after.all (fun e => !Region.binds md e || decide (e.on < i)) | none => true

theorem back_spec (h : backB md ops = true) {i : Nat} {x : Oper} (hx : ops[i]? = some x) : ∀ e ∈ x.after, Region.binds md e = true → e.on < i := by
  have h1 := List.all_eq_true.1 h i (List.mem_range.2 (Array.getElem?_eq_some_iff.1 hx).1)
  rw [hx] at h1
  dsimp only at h1
  rw [Array.all_eq_true_iff_forall_mem] at h1
  intro e he hb
  have h2 := h1 e he
  rw [hb] at h2
  simpa using h2

/-- Where something is not listed, something may come up. -/
theorem some_ready (h : backB md ops = true) (listed : Array Bool) (hsz : listed.size = ops.size) : ∀ i, i < ops.size → listed.getD i true = false → Region.ready md ops listed ≠ [] := by
  intro i
  induction i using Nat.strongRecOn with
  | _ i ih =>
    intro hi hun
    by_cases hr : i ∈ Region.ready md ops listed
    · intro he; rw [he] at hr; cases hr
    · rw [mem_ready] at hr
      obtain ⟨x, hx⟩ : ∃ x, ops[i]? = some x := ⟨_, Array.getElem?_eq_getElem hi⟩
      have hno : ¬ ∀ e ∈ x.after, Region.binds md e = true → listed.getD e.on false = true := fun hall => hr ⟨hun, x, hx, hall⟩
      have hex : ∃ e, e ∈ x.after ∧ Region.binds md e = true ∧ listed.getD e.on false ≠ true := Classical.byContradiction fun hn => hno fun e he hb => Classical.byContradiction fun hl => hn ⟨e, he, hb, hl⟩
      obtain ⟨e, he, hb, hl⟩ := hex
      have hlt := back_spec h hx e he hb
      exact ih e.on hlt (by omega) (getD_in (by omega) (by simpa using hl))

/-- What is asked of the last operation, behind all others. -/
def lastPost (P : Program) (o : Oper) (Q : Exit → Act → World → Prop) : Exit → Act → World → Prop
  | .normal, a, w => o.wp P a w (fun a' w' => Q .normal a' w') (fun _ _ _ => False)
  | _, _, _ => False

theorem wp_weaken {x : Oper} {a : Act} {w : World} {K K' : Act → World → Prop} {Q Q' : Exit → Act → World → Prop} (hK : ∀ a w, K a w → K' a w) (hQ : ∀ c a w, Q (.panic c) a w → Q' (.panic c) a w) (hl : LetsOut Q → LetsOut Q')
    (h : x.wp P a w K Q) : x.wp P a w K' Q' := by
  unfold Oper.wp at *
  generalize (execOp a.eval x).run P w = r at *
  cases r with
  | ok nx w' =>
    cases nx <;> simp only [Oper.upon] at h ⊢
    case value v => exact hK _ _ h
    case skip => exact hK _ _ h
    case defer d => exact hK _ _ h
    case enter f args =>
      refine h.mono fun e w'' he => ?_
      cases e with
      | returned v => exact hK _ _ he
      | panicked c => exact hQ _ _ _ he
      | outgrown => exact hl he
    case row r args => exact h.mono fun v w'' he => hK _ _ he
  | halt x w' =>
    cases x <;> simp only [Oper.upon] at h ⊢
    case panic v => exact hQ _ _ _ h

theorem put_put (a : Act) (d : Option Tmp) (u v : Value) : (a.put d u).put d v = a.put d v := by
  cases d with
  | none => rfl
  | some d => simp [Act.put]

theorem any_of_head (ho : ops[n]? = some o) (hsz : ops.size = n + 1) (hg : o.guard = none) (hdst : ∀ d, o.dst = some d → d ∉ o.looksAt ops) (hsel : ∀ cs b, o.op ≠ .select cs b)
    (hs : Region.sinkB md ops n = true) (hc : Region.chainB md ops n = true) (hb : backB md ops = true) {Q : Exit → Act → World → Prop} :
    ∀ (fuel : Nat) (listed : Array Bool) (a : Act) (w : World), HeadInv md ops n listed →
      wpAny P md (headOps ops n o) (lastPost P o Q) fuel listed a w → wpAny P md ops Q fuel listed a w := by
  intro fuel
  induction fuel with
  | zero =>
    intro listed a w inv h
    have h1 := h.1
    rw [head_ready ho] at h1
    exact absurd h1 (some_ready hb listed inv.size n (by omega) (inv.tail n (Nat.le_refl _) (by omega)))
  | succ fuel ih =>
    intro listed a w inv h
    refine ⟨fun h0 => absurd h0 (some_ready hb listed inv.size n (by omega) (inv.tail n (Nat.le_refl _) (by omega))), fun i hi => ?_⟩
    have h1 := h.2 i (by rw [head_ready ho]; exact hi)
    by_cases hin : i = n
    · subst hin
      -- all others are listed
      have hall : ∀ j, j < i → listed.getD j true = true := fun j hj => by
        cases hx : listed.getD j true with
        | true => rfl
        | false => exact absurd hi (tail_waits hs hc (by omega) inv _ j rfl hj hx i (Nat.le_refl _))
      have hdone : Region.ready md ops (listed.setIfInBounds i true) = [] := by
        rw [List.eq_nil_iff_forall_not_mem]
        intro j hj
        obtain ⟨h0, x, hx, _⟩ := mem_ready.1 hj
        have hjl := (Array.getElem?_eq_some_iff.1 hx).1
        by_cases hji : i = j
        · subst hji
          have : i < listed.size := by rw [inv.size]; omega
          simp [this] at h0
        · rw [getD_set_ne true hji] at h0
          have := hall j (by omega)
          rw [h0] at this
          cases this
      unfold wpOp at h1
      rw [head_at ho] at h1
      simp only [struck, Region.wanted, if_true] at h1
      have h2 : wpAny P md (headOps ops i o) (lastPost P o Q) fuel (listed.setIfInBounds i true) (a.put o.dst undef) w := by
        rcases h1 with h1 | ⟨_, a0, w0, h1⟩
        · simpa [Oper.wp, execOp, Oper.upon, Act.eval] using h1
        · cases h1
      have h3 : lastPost P o Q .normal (a.put o.dst undef) w := by
        cases fuel with
        | zero => exact h2.2
        | succ f => exact h2.1 (by rw [head_ready ho]; exact hdone)
      have h4 : o.wp P a w (fun a' w' => Q .normal a' w') (fun _ _ _ => False) := by
        have h5 : o.wp P (a.put o.dst undef) w (fun a' w' => Q .normal a' w') (fun _ _ _ => False) := h3
        unfold Oper.wp at h5 ⊢
        rw [execOp_put o hsel a o.dst undef hdst] at h5
        generalize (execOp a.eval o).run P w = r at *
        cases r with
        | ok nx w' =>
          cases nx <;> simp only [Oper.upon] at h5 ⊢
          case value v => rw [put_put] at h5; exact h5
          case skip => rw [put_put] at h5; exact h5
          case defer d =>
            cases hd : o.dst <;> simp only [hd, Act.put] at h5 ⊢
            · exact h5
            · simpa using h5
          case enter f args =>
            refine h5.mono fun e w'' he => ?_
            cases e with
            | returned v => (try dsimp only at he ⊢); rw [put_put] at he; exact he
            | panicked c => exact he
            | outgrown => exact he
          case row r args => exact h5.mono fun v w'' he => by (try dsimp only at he ⊢); rw [put_put] at he; exact he
        | halt x w' =>
          cases x <;> simp only [Oper.upon] at h5 ⊢
      unfold wpOp
      rw [ho]
      simp only [Region.wanted, hg, if_true]
      refine .inl (wp_weaken (fun a' w' hQ => ?_) (fun _ _ _ h => h.elim) (fun ⟨_, _, h⟩ => h.elim) h4)
      cases fuel with
      | zero => exact ⟨hdone, hQ⟩
      | succ f => exact ⟨fun _ => hQ, fun j hj => by rw [hdone] at hj; cases hj⟩
    · have hilt : i < n := by
        obtain ⟨_, x, hx, _⟩ := mem_ready.1 hi
        have := (Array.getElem?_eq_some_iff.1 hx).1
        omega
      unfold wpOp at h1 ⊢
      rw [head_ne hin] at h1
      cases hx : ops[i]? with
      | none => rw [hx] at h1; exact ih _ _ _ (inv.set hi hilt) h1
      | some x =>
        rw [hx] at h1
        dsimp only at h1 ⊢
        rw [head_yielded ho] at h1
        split
        · rename_i hw
          rw [if_pos hw] at h1
          rcases h1 with h1 | ⟨_, a0, w0, h1⟩
          · exact .inl (wp_weaken (fun a' w' hK => ih _ _ _ (inv.set hi hilt) hK) (fun _ _ _ h => h.elim) (fun ⟨_, _, h⟩ => h.elim) h1)
          · cases h1
        · rename_i hw
          rw [if_neg hw] at h1
          exact ih _ _ _ (inv.set hi hilt) h1

theorem headInv_start (hsz : ops.size = n + 1) : HeadInv md ops n (Array.replicate ops.size false) :=
  ⟨by simp, fun j _ _ hl => (by rw [getD_replicate_false] at hl; cases hl), fun t _ h2 => by simp [h2]⟩

/-- **THE REGION WHOSE LAST OPERATION WAITS FOR ALL OTHERS.** C: a class of worlds; each of the others yields one value in every world of C and leaves one of C; behind them the last one is run. -/
theorem wp_region_last {C : World → Prop} {id : Nat} {l : List Oper} {Q : Exit → Act → World → Prop} {a : Act} {w : World} (n : Nat) (o : Oper) (ho : l.toArray[n]? = some o) (hsz : l.toArray.size = n + 1) (hg : o.guard = none)
    (hdst : ∀ d, o.dst = some d → d ∉ o.looksAt l.toArray) (hsel : ∀ cs b, o.op ≠ .select cs b) (hm : P.follows .mixedOrders = true)
    (hs : Region.sinkB .any l.toArray n = true) (hc : Region.chainB .any l.toArray n = true) (hb : backB .any l.toArray = true) (hlex : Region.lexB .any (l.set n (struck o)).toArray = true)
    (hC : C w.drew) (h : wpQuiet P (l.set n (struck o)).toArray C (fun a' => ∀ w', C w' → o.wp P a' w' (fun a'' w'' => Q .normal a'' w'') (fun _ _ _ => False)) (l.set n (struck o)) a) :
    (Code.region id l.toArray true).wp P Q a w := by
  have hh : headOps l.toArray n o = (l.set n (struck o)).toArray := by
    have : n < l.length := by simpa using (Array.getElem?_eq_some_iff.1 ho).1
    simp [headOps]
  refine wp_region_any hm (any_of_head ho hsz hg hdst hsel hs hc hb _ _ _ _ (headInv_start hsz) ?_)
  rw [hh]
  simp only [Region.lexB, Bool.and_eq_true] at hlex
  refine wpAny_of_quiet (C := C) (Q := fun a' => ∀ w', C w' → o.wp P a' w' (fun a'' w'' => Q .normal a'' w'') (fun _ _ _ => False)) (fun a' w' hw' h => h w' hw') _ _ _ _ hC ?_
  have := wpAnyQ_lex (C := C) (md := .any) hlex.1 (l.set n (struck o)) 0 (Array.replicate (l.set n (struck o)).toArray.size false) a (by simp) (by simpa using hlex.2) h
  simpa using this
/-- A world of a class, as one thing: the walk's rules speak of 'x.w'. -/
structure Kin (C : World → Prop) where
  w : World
  has : C w

def apartB (o : Oper) (ops : Array Oper) : Bool := (match o.dst with | none => true | some d => !(o.looksAt ops).contains d) && (match o.op with | .select .. => false | _ => true)
theorem apart_dst {o : Oper} {ops : Array Oper} (h : apartB o ops = true) : ∀ d, o.dst = some d → d ∉ o.looksAt ops := by
  intro d hd
  unfold apartB at h
  rw [hd] at h
  simp only [Bool.and_eq_true] at h
  intro hm
  have := h.1
  simp [hm] at this
theorem apart_sel {o : Oper} {ops : Array Oper} (h : apartB o ops = true) : ∀ cs b, o.op ≠ .select cs b := by
  intro cs b hs
  unfold apartB at h
  rw [hs] at h
  simp at h

/-- The region whose last operation waits, at a class of kin. -/
theorem wp_region_last_kin (C : World → Prop) (n : Nat) {id : Nat} {l : List Oper} {Q : Exit → Act → World → Prop} {a : Act} {w : World} (o : Oper) (ho : l.drop n = [o]) (hg : o.guard = none)
    (hap : apartB o l.toArray = true) (hm : P.follows .mixedOrders = true)
    (hs : Region.sinkB .any l.toArray n = true) (hc : Region.chainB .any l.toArray n = true) (hb : backB .any l.toArray = true) (hlex : Region.lexB .any (l.set n (struck o)).toArray = true)
    (hC : C w.drew) (h : Nonempty (Kin C) → wpQuiet P (l.set n (struck o)).toArray (fun w' => ∃ x : Kin C, w' = x.w) (fun a' => ∀ w', (∃ x : Kin C, w' = x.w) → o.wp P a' w' (fun a'' w'' => Q .normal a'' w'') (fun _ _ _ => False)) (l.set n (struck o)) a) :
    (Code.region id l.toArray true).wp P Q a w :=
  wp_region_last (C := fun w' => ∃ x : Kin C, w' = x.w) n o (by have h0 := congrArg (fun m => m[0]?) ho; simpa [List.getElem?_drop] using h0)
    (by have h0 := congrArg List.length ho; simp at h0; simp; omega) hg (apart_dst hap) (apart_sel hap) hm hs hc hb hlex ⟨⟨_, hC⟩, rfl⟩ (h ⟨⟨_, hC⟩⟩)

/-- The region that only reads, and calls quietly, at a class of kin. -/
theorem wp_region_kin (C : World → Prop) {id : Nat} {l : List Oper} {Q : Exit → Act → World → Prop} {a : Act} {w : World} (hm : P.follows .mixedOrders = true) (hB : Region.lexB .any l.toArray = true) (hC : C w.drew)
    (h : Nonempty (Kin C) → wpQuiet P l.toArray (fun w' => ∃ x : Kin C, w' = x.w) (fun a' => ∀ w', (∃ x : Kin C, w' = x.w) → Q .normal a' w') l a) : (Code.region id l.toArray true).wp P Q a w :=
  wp_region_quiet (C := fun w' => ∃ x : Kin C, w' = x.w) hm hB ⟨⟨_, hC⟩, rfl⟩ (by simpa using h ⟨⟨_, hC⟩⟩)

/-- A callee's contract, met by kin: R, what it says of the world it leaves. -/
theorem Calls.kin {C : World → Prop} {f : FuncId} {args : Array Value} {x : Kin C} {v : Value} {P : Program} {R : World → Prop} (h : Calls P f args x.w fun e w' => e = .returned v ∧ R w') (hs : ∀ w', R w' → C w') :
    Calls P f args x.w fun e w'' => e = .returned v ∧ ∃ y : Kin C, w'' = y.w :=
  h.mono fun _ w' ⟨he, hc⟩ => ⟨he, ⟨w', hs w' hc⟩, rfl⟩
end

end Go.Proofs.Ytfkcldaogfengaa
