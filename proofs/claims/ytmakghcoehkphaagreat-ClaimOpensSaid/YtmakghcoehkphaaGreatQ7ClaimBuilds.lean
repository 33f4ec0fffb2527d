/-
  ClaimBuilds, part 7: the texts Inv, Reg, Wd, We, Sha5, Sha6, ShaP, Sha7, Sha8, Sha9, Sha10, Sha11, ShaD, one after another. Conditions: none beyond those named at each.
-/
import Derived.Test.YtmakghcoehkphaaGreatQ2ClaimBuilds
import Derived.Test.YtmakghcoehkphaaGreatQ1ClaimBuilds
import Derived.Test.YtmakghcoehkphaaGreatWc
import Derived.Test.YtmakghcoehkphaaGreatQ6ClaimBuilds
import Derived.Test.YtmakghcoehkphaaGreatShelf
import Derived.Deep.RegionHeld
import Derived.Deep.DrawnRows
section
/-
  A region that draws its order, by what holds behind each set of its operations. Conditions: those named in wp_region_inv.
-/
namespace Go.Proofs.YtmakghcoehkphaaGreat
open Go.RowKit Go.BigFrame
set_option linter.unusedVariables false

section
variable {P : Program}
theorem getD_set_iff {l : Array Bool} {i j : Nat} (hi : i < l.size) : (l.setIfInBounds i true).getD j false = true ↔ (j = i ∨ l.getD j false = true) := by
  by_cases h : j = i
  · subst h
    simp [hi]
  · rw [Array.getD_eq_getD_getElem?, Array.getElem?_setIfInBounds_ne (Ne.symm h), ← Array.getD_eq_getD_getElem?]
    simp [h]
theorem getD_flip {l : Array Bool} {i : Nat} (hi : i < l.size) (b c : Bool) : l.getD i b = l.getD i c := by simp [Array.getD, hi]
theorem count_set_true {l : Array Bool} {i : Nat} (hi : i < l.size) (h : l.getD i true = false) : (l.setIfInBounds i true).toList.count false + 1 = l.toList.count false := by
  have hl : l.toList[i]'(by simpa using hi) = false := by
    have := h
    simpa [Array.getD, hi] using this
  have hpos : 0 < l.toList.count false := List.count_pos_iff.2 (by rw [← hl]; exact List.getElem_mem _)
  rw [Array.toList_setIfInBounds, List.count_set (by simpa using hi), hl]
  have e1 : (false == false) = true := rfl
  rw [if_pos e1, if_neg (by simp)]
  omega

/-- **A REGION THAT DRAWS ITS ORDER, BY AN INVARIANT.** I L a w: what holds where just the operations of L have been run. -/
theorem wp_region_inv (I : (Nat → Prop) → Act → World → Prop) {id : Nat} {l : List Oper} {Q : Exit → Act → World → Prop} {a : Act} {w : World} (hm : P.follows .mixedOrders = true) (hb : backB .any l.toArray = true)
    (hg : (l.all fun o => o.guard.isNone) = true) (h0 : I (fun _ => False) a w.drew)
    (hstep : ∀ (L : Nat → Prop) (i : Nat) (o : Oper) (a : Act) (w : World), l[i]? = some o → ¬ L i → (∀ e ∈ o.after, Region.binds .any e = true → L e.on) → I L a w →
      o.wp P a w (fun a' w' => I (fun j => j = i ∨ L j) a' w') (fun _ _ _ => False))
    (hend : ∀ (L : Nat → Prop) (a : Act) (w : World), (∀ j, j < l.length → L j) → I L a w → Q .normal a w) :
    (Code.region id l.toArray true).wp P Q a w := by
  have main : ∀ (fuel : Nat) (listed : Array Bool) (a : Act) (w : World), listed.size = l.toArray.size → listed.toList.count false ≤ fuel → I (fun j => listed.getD j false = true) a w →
      wpAny P .any l.toArray Q fuel listed a w := by
    intro fuel
    induction fuel with
    | zero =>
      intro listed a w hsz hc hI
      have hall : ∀ j, j < listed.size → listed.getD j false = true := fun j hj => by
        cases hx : listed.getD j false with
        | true => rfl
        | false =>
          exfalso
          have h1 := count_set_true hj (by rw [getD_flip hj true false]; exact hx)
          omega
      refine ⟨?_, hend _ a w (fun j hj => hall j (by rw [hsz]; simpa using hj)) hI⟩
      rw [List.eq_nil_iff_forall_not_mem]
      intro j hj
      obtain ⟨h1, x, hx, _⟩ := mem_ready.1 hj
      have hjl : j < listed.size := by rw [hsz]; exact (Array.getElem?_eq_some_iff.1 hx).1
      rw [getD_flip hjl true false, hall j hjl] at h1
      cases h1
    | succ fuel ih =>
      intro listed a w hsz hc hI
      refine ⟨fun he => hend _ a w (fun j hj => ?_) hI, fun i hi => ?_⟩
      · have hjl : j < listed.size := by rw [hsz]; simpa using hj
        cases hx : listed.getD j false with
        | true => rfl
        | false => exact absurd he (some_ready hb listed hsz j (by rw [← hsz]; exact hjl) (by rw [getD_flip hjl true false]; exact hx))
      · obtain ⟨h1, x, hx, h2⟩ := mem_ready.1 hi
        have hil : i < listed.size := by rw [hsz]; exact (Array.getElem?_eq_some_iff.1 hx).1
        have hxl : l[i]? = some x := by simpa using hx
        have hgx : x.guard = none := by
          have := List.all_eq_true.1 hg x (List.mem_of_getElem? hxl)
          simpa using this
        have hs := hstep (fun j => listed.getD j false = true) i x a w hxl (by rw [getD_flip hil false true, h1]; simp) h2 hI
        unfold wpOp
        rw [hx]
        simp only [Region.wanted, hgx, if_true]
        refine .inl (wp_weaken (fun a' w' hK => ?_) (fun _ _ _ h => h.elim) (fun ⟨_, _, h⟩ => h.elim) hs)
        refine ih _ a' w' (by simpa using hsz) (by have := count_set_true hil h1; omega) ?_
        have he : (fun j => (listed.setIfInBounds i true).getD j false = true) = fun j => j = i ∨ listed.getD j false = true := by
          funext j
          exact propext (getD_set_iff hil)
        rw [he]
        exact hK
  refine wp_region_any hm (main _ _ a _ (by simp) (by simp) ?_)
  have he : (fun j => (Array.replicate l.toArray.size false).getD j false = true) = fun _ => False := by
    funext j
    apply propext
    refine ⟨fun h => ?_, fun h => h.elim⟩
    have h1 : (Array.replicate l.toArray.size false).getD j false = false := by simp [Array.getD]
    rw [h1] at h
    cases h
  rw [he]
  exact h0
/-- The same, told from the frame at the region's start. -/
theorem wp_region_inv_at (J : Act → (Nat → Prop) → Act → World → Prop) {id : Nat} {l : List Oper} {Q : Exit → Act → World → Prop} {a : Act} {w : World} (hm : P.follows .mixedOrders = true) (hb : backB .any l.toArray = true)
    (hg : (l.all fun o => o.guard.isNone) = true) (h0 : J a (fun _ => False) a w.drew)
    (hstep : ∀ (L : Nat → Prop) (i : Nat) (o : Oper) (a' : Act) (w' : World), l[i]? = some o → ¬ L i → (∀ e ∈ o.after, Region.binds .any e = true → L e.on) → J a L a' w' →
      o.wp P a' w' (fun a'' w'' => J a (fun j => j = i ∨ L j) a'' w'') (fun _ _ _ => False))
    (hend : ∀ (L : Nat → Prop) (a' : Act) (w' : World), (∀ j, j < l.length → L j) → J a L a' w' → Q .normal a' w') :
    (Code.region id l.toArray true).wp P Q a w := wp_region_inv (J a) hm hb hg h0 hstep hend
end
end Go.Proofs.YtmakghcoehkphaaGreat
end

section
/-
  A region that draws its order: operations that make memory of their own, in any order, and behind them a tail of operations of which each waits for all ahead of it. Conditions: those named in wp_region_made.
-/
namespace Go.Proofs.YtmakghcoehkphaaGreat
open Go.RowKit Go.BigFrame
set_option linter.unusedVariables false

theorem opv_run {P : Program} {o : Oper} {a : Act} {w w' : World} {v : Value} {K : Act → World → Prop} {Q : Exit → Act → World → Prop} (hrun : (execOp a.eval o).run P w = .ok (.value v) w') (hK : K (a.put o.dst v) w') : o.wp P a w K Q := by
  unfold Oper.wp
  rw [hrun]
  exact hK
theorem op_skip {P : Program} {o : Oper} {a : Act} {w w' : World} {K : Act → World → Prop} {Q : Exit → Act → World → Prop} (hrun : (execOp a.eval o).run P w = .ok .skip w') (hK : K (a.put o.dst undef) w') : o.wp P a w K Q := by
  unfold Oper.wp
  rw [hrun]
  exact hK
theorem op_call {P : Program} {o : Oper} {a : Act} {w : World} {f : FuncId} {args : Array Value} {R : Ending → World → Prop} {K : Act → World → Prop} {Q : Exit → Act → World → Prop} (hrun : (execOp a.eval o).run P w = .ok (.enter f args) w)
    (hc : Calls P f args w R) (hK : ∀ e w', R e w' → ∃ v, e = .returned v ∧ K (a.put o.dst v) w') : o.wp P a w K Q := by
  unfold Oper.wp
  rw [hrun]
  refine hc.mono fun e w' hR => ?_
  obtain ⟨v, rfl, hk⟩ := hK e w' hR
  exact hk

/-- The frame behind the operations' results. -/
def putAll (a : Act) : List Oper → List Value → Act
  | o :: l, x :: xs => putAll (a.put o.dst x) l xs
  | _, _ => a
def depsOf (o : Oper) : List Nat := (o.after.toList.filter (Region.binds .any)).map (·.on)
def deps (l : List Oper) (i : Nat) : List Nat := match l[i]? with | some o => depsOf o | none => []
def noneOf (d : Option Tmp) (l : List Oper) : Bool := match d with | none => true | some d => l.all fun o => match o.dst with | none => true | some e => !(d == e)
def dstB : List Oper → Bool
  | [] => true
  | o :: l => noneOf o.dst l && dstB l

theorem put_comm (a : Act) {d e : Option Tmp} (h : ∀ x y, d = some x → e = some y → x ≠ y) (u v : Value) : (a.put d u).put e v = (a.put e v).put d u := by
  cases d with
  | none => rfl
  | some d =>
    cases e with
    | none => rfl
    | some e =>
      have hne := h d e rfl rfl
      simp only [Act.put]
      congr 1
      exact Array.setIfInBounds_comm _ _ hne
theorem put_own (a : Act) (d : Option Tmp) : a.put d (match d with | some d => a.tmps.getD d undef | none => undef) = a := by
  cases d with
  | none => rfl
  | some d =>
    simp only [Act.put]
    have h : a.tmps.setIfInBounds d (a.tmps.getD d undef) = a.tmps := by
      apply Array.ext
      · simp
      · intro i h1 h2
        rw [Array.getElem_setIfInBounds h2]
        split
        · rename_i e
          subst e
          simp [Array.getD, h2]
        · rfl
    rw [h]
theorem putAll_put_none : ∀ (l : List Oper) (xs : List Value) (a : Act) (d : Option Tmp) (v : Value), noneOf d l = true → (putAll a l xs).put d v = putAll (a.put d v) l xs
  | [], xs, a, d, v, h => by simp [putAll]
  | o :: l, [], a, d, v, h => by simp [putAll]
  | o :: l, x :: xs, a, d, v, h => by
    have h1 : noneOf d l = true := by
      cases d with
      | none => rfl
      | some d => simp only [noneOf, List.all_cons, Bool.and_eq_true] at h ⊢; exact h.2
    rw [putAll, putAll, putAll_put_none l xs _ d v h1, put_comm]
    intro p q hp hq e
    subst e
    rw [hq] at h
    simp [noneOf, hp] at h
theorem putAll_put : ∀ (l : List Oper) (xs : List Value) (a : Act) (i : Nat) (o : Oper) (v : Value), dstB l = true → l[i]? = some o → i < xs.length → (putAll a l xs).put o.dst v = putAll a l (xs.set i v)
  | [], xs, a, i, o, v, hd, ho, hi => by simp at ho
  | p :: l, [], a, i, o, v, hd, ho, hi => by simp at hi
  | p :: l, x :: xs, a, 0, o, v, hd, ho, hi => by
    obtain rfl : p = o := by simpa using ho
    simp only [dstB, Bool.and_eq_true] at hd
    rw [putAll, List.set_cons_zero, putAll, putAll_put_none l xs _ _ v hd.1, put_put]
  | p :: l, x :: xs, a, i + 1, o, v, hd, ho, hi => by
    simp only [dstB, Bool.and_eq_true] at hd
    rw [putAll, List.set_cons_succ, putAll, putAll_put l xs _ i o v hd.2 (by simpa using ho) (by simpa using hi)]
def ownVals (a : Act) (l : List Oper) : List Value := l.map fun o => match o.dst with | some d => a.tmps.getD d undef | none => undef
theorem putAll_own : ∀ (l : List Oper) (a : Act) (n : Nat), putAll a l ((ownVals a l).take n) = a
  | [], a, n => by simp [putAll]
  | o :: l, a, 0 => by simp [putAll]
  | o :: l, a, n + 1 => by
    have h := putAll_own l a n
    unfold ownVals at h ⊢
    rw [List.map_cons, List.take_succ_cons, putAll, put_own]
    exact h

/-- What holds of an operation's value, by the values on which it waits, the blocks from lo to hi, and the world; it stays while these blocks do. -/
structure Fact where
  p : Value → List Value → Nat → Nat → World → Prop
  mono : ∀ {v : Value} {d : List Value} {lo hi : Nat} {w w' : World}, (∀ b, b < hi → w'.heap[b]? = w.heap[b]?) → p v d lo hi w → p v d lo hi w'
def Fact.val (f : List Value → Value) : Fact := ⟨fun v d _ _ _ => v = f d, fun _ h => h⟩
def Fact.is (q : Value → List Value → Prop) : Fact := ⟨fun v d _ _ _ => q v d, fun _ h => h⟩
def Fact.box (f : List Value → Obj) : Fact := ⟨fun v d lo hi w => ∃ b, lo ≤ b ∧ b < hi ∧ v = .pointer (some ⟨b, 0, none⟩) ∧ w.heap[b]? = some (f d), fun hk ⟨b, h1, h2, h3, h4⟩ => ⟨b, h1, h2, h3, (hk b h2).trans h4⟩⟩
def Fact.row (n : Nat) (f : List Value → Obj) : Fact := ⟨fun v d lo hi w => ∃ b, lo ≤ b ∧ b < hi ∧ v = .slice (some ⟨b, 0, none⟩) n n ∧ w.heap[b]? = some (f d), fun hk ⟨b, h1, h2, h3, h4⟩ => ⟨b, h1, h2, h3, (hk b h2).trans h4⟩⟩
def Fact.own (base e size n : Nat) (xs : List Value → List Value) : Fact := ⟨fun v d lo hi w => (∀ b, v.ownBlock = some b → lo ≤ b ∧ b < hi) ∧ w.ownsRow base e size v n (xs d), fun hk ⟨h1, h2⟩ => ⟨h1, ownsRow_of_block h2 fun b hb => hk b (h1 b hb).2⟩⟩
def Fact.any : Fact := ⟨fun _ _ _ _ _ => True, fun _ _ => trivial⟩

/-- Where just the operations of L have been run, all of the first n. -/
structure Made (R : Nat → Fact) (l : List Oper) (n : Nat) (w0 : World) (L : Nat → Prop) (xs : List Value) (lo hi : Nat → Nat) (w : World) : Prop where
  len : xs.length = n
  closed : ∀ j, L j → ∀ d, (deps l j).contains d = true → L d
  lt : ∀ j, L j → j < n
  bel : Below w0.heap.size w0 w
  rel : ∀ j, L j → (R j).p (xs.getD j undef) ((deps l j).map fun d => xs.getD d undef) (lo j) (hi j) w
  lohi : ∀ j, L j → w0.heap.size ≤ lo j ∧ lo j ≤ hi j ∧ hi j ≤ w.heap.size
  apart : ∀ i j, L i → L j → i ≠ j → hi i ≤ lo j ∨ hi j ≤ lo i

section
variable {P : Program} {R : Nat → Fact} {l : List Oper} {n : Nat} {w0 w : World} {L : Nat → Prop} {xs : List Value} {lo hi : Nat → Nat}

theorem deps_binds {i d : Nat} {o : Oper} (ho : l[i]? = some o) (h : (deps l i).contains d = true) : ∃ e ∈ o.after, Region.binds .any e = true ∧ e.on = d := by
  unfold deps at h
  rw [ho] at h
  simp only [depsOf, List.contains_iff_mem, List.mem_map, List.mem_filter] at h
  obtain ⟨e, ⟨h1, h2⟩, h3⟩ := h
  exact ⟨e, by simpa using h1, h2, h3⟩

theorem Made.step (h : Made R l n w0 L xs lo hi w) {i : Nat} (hin : i < n) (hni : ¬ L i) (hpre : ∀ d, (deps l i).contains d = true → L d) {v : Value} {w' : World}
    (hbel : Below w.heap.size w w') (hr : (R i).p v ((deps l i).map fun d => xs.getD d undef) w.heap.size w'.heap.size w') :
    Made R l n w0 (fun j => j = i ∨ L j) (xs.set i v) (fun j => if j = i then w.heap.size else lo j) (fun j => if j = i then w'.heap.size else hi j) w' := by
  have hget : ∀ j, L j → (xs.set i v).getD j undef = xs.getD j undef := by
    intro j hj
    have hne : i ≠ j := fun e => hni (e ▸ hj)
    simp [List.getD, List.getElem?_set_ne hne]
  have hself : (xs.set i v).getD i undef = v := by
    have : i < xs.length := by rw [h.len]; exact hin
    simp [List.getD, this]
  have hmap : ∀ j, (j = i ∨ L j) → ((deps l j).map fun d => (xs.set i v).getD d undef) = (deps l j).map fun d => xs.getD d undef := by
    intro j hj
    refine List.map_congr_left fun d hd => hget d ?_
    have hc : (deps l j).contains d = true := by simpa using hd
    rcases hj with rfl | hj
    · exact hpre d hc
    · exact h.closed j hj d hc
  have hsz := hbel.size
  refine ⟨by rw [List.length_set]; exact h.len, ?_, ?_, h.bel.trans (hbel.mono h.bel.size), ?_, ?_, ?_⟩
  · rintro j (rfl | hj) d hd
    · exact .inr (hpre d hd)
    · exact .inr (h.closed j hj d hd)
  · rintro j (rfl | hj)
    · exact hin
    · exact h.lt j hj
  · rintro j (rfl | hj)
    · rw [hself, hmap j (.inl rfl), if_pos rfl, if_pos rfl]
      exact hr
    · have hne : j ≠ i := fun e => hni (e ▸ hj)
      rw [hget j hj, hmap j (.inr hj), if_neg hne, if_neg hne]
      have h3 := h.lohi j hj
      exact (R j).mono (fun b h2 => hbel.block b (by omega)) (h.rel j hj)
  · rintro j (rfl | hj)
    · rw [if_pos rfl, if_pos rfl]
      exact ⟨h.bel.size, hsz, Nat.le_refl _⟩
    · have hne : j ≠ i := fun e => hni (e ▸ hj)
      rw [if_neg hne, if_neg hne]
      have := h.lohi j hj
      omega
  · rintro p q (rfl | hp) (rfl | hq) hpq
    · exact absurd rfl hpq
    · have hne : q ≠ p := fun e => hpq e.symm
      rw [if_pos rfl, if_pos rfl, if_neg hne, if_neg hne]
      exact .inr (h.lohi q hq).2.2
    · rw [if_pos rfl, if_pos rfl, if_neg hpq, if_neg hpq]
      exact .inl (h.lohi p hp).2.2
    · have h1 : p ≠ i := fun e => hni (e ▸ hp)
      have h2 : q ≠ i := fun e => hni (e ▸ hq)
      rw [if_neg h1, if_neg h1, if_neg h2, if_neg h2]
      exact h.apart p q hp hq hpq

theorem Made.start {a0 : Act} (hl : n ≤ l.length) (w : World) : Made R l n w (fun _ => False) ((ownVals a0 l).take n) (fun _ => 0) (fun _ => 0) w.drew :=
  ⟨by simp [ownVals]; omega, fun _ h => h.elim, fun _ h => h.elim, ⟨rfl, rfl, rfl, Nat.le_refl _, fun _ _ => rfl⟩, fun _ h => h.elim, fun _ h => h.elim, fun _ _ h => h.elim⟩

/-- What is asked of one operation. -/
def StepOk (P : Program) (R : Nat → Fact) (a0 : Act) (l : List Oper) (n : Nat) (w0 : World) (i : Nat) (o : Oper) : Prop :=
  ∀ (L : Nat → Prop) (xs : List Value) (lo hi : Nat → Nat) (w : World), Made R l n w0 L xs lo hi w → ¬ L i → (∀ d, (deps l i).contains d = true → L d) →
    o.wp P (putAll a0 l xs) w (fun a' w' => ∃ v, a' = (putAll a0 l xs).put o.dst v ∧ Below w.heap.size w w' ∧ (R i).p v ((deps l i).map fun d => xs.getD d undef) w.heap.size w'.heap.size w') (fun _ _ _ => False)

/-- Do all operations stand ahead of one? -/
def aheadB (l : List Oper) (n : Nat) : Bool :=
  let rec go : Nat → List Bool → List Bool
    | 0, s => s
    | f + 1, s => go f ((List.range n).map fun j => s.getD j false || (List.range n).any fun i => s.getD i false && (deps l i).contains j)
  (go n ((List.range n).map fun j => (deps l n).contains j)).all id
theorem ahead_go {n : Nat} (hc : ∀ j, L j → ∀ d, (deps l j).contains d = true → L d) : ∀ (f : Nat) (s : List Bool), (∀ j, s.getD j false = true → L j) → ∀ j, (aheadB.go l n f s).getD j false = true → L j
  | 0, s, h, j, hj => h j hj
  | f + 1, s, h, j, hj => by
    rw [aheadB.go] at hj
    refine ahead_go hc f _ (fun q hq => ?_) j hj
    rw [List.getD_eq_getElem?_getD, List.getElem?_map] at hq
    cases hr : (List.range n)[q]? with
    | none => rw [hr] at hq; simp at hq
    | some r =>
      rw [hr] at hq
      obtain rfl : r = q := by
        have := List.getElem?_eq_some_iff.1 hr
        obtain ⟨h1, h2⟩ := this
        rw [List.getElem_range] at h2
        exact h2.symm
      simp only [Option.map_some, Option.getD_some, Bool.or_eq_true, List.any_eq_true, Bool.and_eq_true] at hq
      rcases hq with hq | ⟨i, -, h1, h2⟩
      · exact h r hq
      · exact hc i (h i h1) r h2
theorem ahead_all (h : aheadB l n = true) (hc : ∀ j, L j → ∀ d, (deps l j).contains d = true → L d) (hd : ∀ d, (deps l n).contains d = true → L d) : ∀ j, j < n → L j := by
  have hlen : ∀ (f : Nat) (s : List Bool), s.length = n → (aheadB.go l n f s).length = n := by
    intro f
    induction f with
    | zero => intro s hs; exact hs
    | succ f ih => intro s hs; rw [aheadB.go]; exact ih _ (by simp)
  intro j hj
  refine ahead_go (n := n) hc n ((List.range n).map fun j => (deps l n).contains j) (fun q hq => ?_) j ?_
  · rw [List.getD_eq_getElem?_getD, List.getElem?_map] at hq
    cases hr : (List.range n)[q]? with
    | none => rw [hr] at hq; simp at hq
    | some r =>
      rw [hr] at hq
      obtain ⟨h1, h2⟩ := List.getElem?_eq_some_iff.1 hr
      rw [List.getElem_range] at h2
      subst h2
      exact hd _ (by simpa using hq)
  · unfold aheadB at h
    have h1 := List.all_eq_true.1 h
    have h2 : j < (aheadB.go l n n ((List.range n).map fun j => (deps l n).contains j)).length := by rw [hlen _ _ (by simp)]; exact hj
    rw [List.getD_eq_getElem?_getD, List.getElem?_eq_getElem h2]
    simpa using h1 _ (List.getElem_mem h2)


theorem wpOp_mono {ops : Array Oper} {Q : Exit → Act → World → Prop} {i : Nat} {K K' : Act → World → Prop} {a : Act} (h : wpOp P ops Q i K a w) (hk : ∀ a' w', K a' w' → K' a' w') : wpOp P ops Q i K' a w := by
  unfold wpOp at h ⊢
  cases ho : ops[i]? with
  | none => rw [ho] at h; exact hk _ _ h
  | some o =>
    rw [ho] at h
    dsimp only at h ⊢
    split
    · rename_i hw
      rw [if_pos hw] at h
      rcases h with h | h
      · exact .inl (wp_weaken hk (fun _ _ _ h => h) (fun h => h) h)
      · exact .inr h
    · rename_i hw
      rw [if_neg hw] at h
      exact hk _ _ h

/-- A region by what holds behind each set of its operations; each operation as the region itself asks it. -/
theorem wp_region_inv2 (I : (Nat → Prop) → Act → World → Prop) {id : Nat} {Q : Exit → Act → World → Prop} {a : Act} (hm : P.follows .mixedOrders = true) (hb : backB .any l.toArray = true)
    (h0 : I (fun _ => False) a w.drew)
    (hstep : ∀ (L : Nat → Prop) (i : Nat) (a : Act) (w : World), i < l.length → ¬ L i → (∀ d, (deps l i).contains d = true → L d) → I L a w → wpOp P l.toArray Q i (fun a' w' => I (fun j => j = i ∨ L j) a' w') a w)
    (hend : ∀ (L : Nat → Prop) (a : Act) (w : World), (∀ j, j < l.length → L j) → I L a w → Q .normal a w) :
    (Code.region id l.toArray true).wp P Q a w := by
  have main : ∀ (fuel : Nat) (listed : Array Bool) (a : Act) (w : World), listed.size = l.toArray.size → listed.toList.count false ≤ fuel → I (fun j => listed.getD j false = true) a w →
      wpAny P .any l.toArray Q fuel listed a w := by
    intro fuel
    induction fuel with
    | zero =>
      intro listed a w hsz hc hI
      have hall : ∀ j, j < listed.size → listed.getD j false = true := fun j hj => by
        cases hx : listed.getD j false with
        | true => rfl
        | false =>
          exfalso
          have h1 := count_set_true hj (by rw [getD_flip hj true false]; exact hx)
          omega
      refine ⟨?_, hend _ a w (fun j hj => hall j (by rw [hsz]; simpa using hj)) hI⟩
      rw [List.eq_nil_iff_forall_not_mem]
      intro j hj
      obtain ⟨h1, x, hx, _⟩ := mem_ready.1 hj
      have hjl : j < listed.size := by rw [hsz]; exact (Array.getElem?_eq_some_iff.1 hx).1
      rw [getD_flip hjl true false, hall j hjl] at h1
      cases h1
    | succ fuel ih =>
      intro listed a w hsz hc hI
      refine ⟨fun he => hend _ a w (fun j hj => ?_) hI, fun i hi => ?_⟩
      · have hjl : j < listed.size := by rw [hsz]; simpa using hj
        cases hx : listed.getD j false with
        | true => rfl
        | false => exact absurd he (some_ready hb listed hsz j (by rw [← hsz]; exact hjl) (by rw [getD_flip hjl true false]; exact hx))
      · obtain ⟨h1, x, hx, h2⟩ := mem_ready.1 hi
        have hil : i < listed.size := by rw [hsz]; exact (Array.getElem?_eq_some_iff.1 hx).1
        have hxl : l[i]? = some x := by simpa using hx
        have hs := hstep (fun j => listed.getD j false = true) i a w (by rw [hsz] at hil; simpa using hil) (by rw [getD_flip hil false true, h1]; simp) (fun d hd => by
          obtain ⟨e, e1, e2, rfl⟩ := deps_binds hxl hd
          exact h2 e e1 e2) hI
        refine wpOp_mono hs fun a' w' hK => ?_
        refine ih _ a' w' (by simpa using hsz) (by have := count_set_true hil h1; omega) ?_
        have he : (fun j => (listed.setIfInBounds i true).getD j false = true) = fun j => j = i ∨ listed.getD j false = true := by
          funext j
          exact propext (getD_set_iff hil)
        rw [he]
        exact hK
  refine wp_region_any hm (main _ _ a _ (by simp) (by simp) ?_)
  have he : (fun j => (Array.replicate l.toArray.size false).getD j false = true) = fun _ => False := by
    funext j
    apply propext
    refine ⟨fun h => ?_, fun h => h.elim⟩
    have h1 : (Array.replicate l.toArray.size false).getD j false = false := by simp [Array.getD]
    rw [h1] at h
    cases h
  rw [he]
  exact h0

def tailB (l : List Oper) (n : Nat) : Bool := (List.range (l.length - n)).all fun t => aheadB l (n + t)

/-- **THE FIRST n OPERATIONS MAKE MEMORY OF THEIR OWN, IN ANY ORDER; each behind them waits for all ahead of it.** The goal that is left is the tail, as a plain region has it. -/
theorem wp_region_made (R : Nat → Fact) (n : Nat) {id : Nat} {Q : Exit → Act → World → Prop} {a0 : Act} (hm : P.follows .mixedOrders = true) (hb : backB .any l.toArray = true)
    (hg : ((l.take n).all fun o => o.guard.isNone) = true) (hd : dstB l = true) (hn : n ≤ l.length) (ht : tailB l n = true)
    (hstep : ∀ i o, i < n → l[i]? = some o → StepOk P R a0 l n w0 i o)
    (hend : ∀ (xs : List Value) (lo hi : Nat → Nat) (w : World), Made R l n w0 (fun j => j < n) xs lo hi w → wpList P l.toArray Q (l.drop n) (putAll a0 l xs) w) :
    (Code.region id l.toArray true).wp P Q a0 w0 := by
  refine wp_region_inv2 (fun L a w => (∃ xs lo hi, a = putAll a0 l xs ∧ Made R l n w0 L xs lo hi w ∧ ¬ (∀ j, j < n → L j)) ∨ (∃ t, n ≤ t ∧ (L = fun j => j < t) ∧ wpList P l.toArray Q (l.drop t) a w)) hm hb ?_ ?_ ?_
  · have h0 : Made R l n w0 (fun _ => False) ((ownVals a0 l).take n) (fun _ => 0) (fun _ => 0) w0.drew := Made.start hn w0
    by_cases hz : n = 0
    · subst hz
      refine .inr ⟨0, Nat.le_refl _, by funext j; simp, ?_⟩
      have he : (fun _ => False) = fun j : Nat => j < 0 := by funext j; simp
      have := hend _ _ _ _ (he ▸ h0)
      rw [putAll_own] at this
      exact this
    · exact .inl ⟨_, _, _, (putAll_own l a0 n).symm, h0, fun h => h 0 (by omega)⟩
  · rintro L i a w hil hni hpre hcase
    obtain ⟨o, ho⟩ : ∃ o, l[i]? = some o := ⟨_, List.getElem?_eq_getElem hil⟩
    have hoa : l.toArray[i]? = some o := by simpa using ho
    have hahead : n ≤ i → (∀ j, L j → ∀ d, (deps l j).contains d = true → L d) → ∀ j, j < i → L j := by
      intro hni' hcl
      have h1 := List.all_eq_true.1 ht (i - n) (List.mem_range.2 (by omega))
      rw [show n + (i - n) = i by omega] at h1
      exact ahead_all h1 hcl hpre
    rcases hcase with ⟨xs, lo, hi, rfl, hmd, hno⟩ | ⟨t, hnt, rfl, hwp⟩
    · by_cases hin : i < n
      · have hgo : o.guard = none := by
          have h1 : o ∈ l.take n := by
            rw [List.mem_iff_getElem?]
            exact ⟨i, by rw [List.getElem?_take_of_lt hin]; exact ho⟩
          have := List.all_eq_true.1 hg o h1
          simpa using this
        unfold wpOp
        rw [hoa]
        simp only [Region.wanted, hgo, if_true]
        refine .inl (wp_weaken ?_ (fun _ _ _ h => h.elim) (fun ⟨_, _, h⟩ => h.elim) (hstep i o hin ho L xs lo hi w hmd hni hpre))
        rintro a' w' ⟨v, rfl, hbel, hr⟩
        have hmd' := hmd.step hin hni hpre hbel hr
        rw [putAll_put l xs a0 i o v hd ho (by rw [hmd.len]; exact hin)]
        by_cases hall : ∀ j, j < n → (j = i ∨ L j)
        · refine .inr ⟨n, Nat.le_refl _, ?_, ?_⟩
          · funext j
            exact propext ⟨hmd'.lt j, hall j⟩
          · have he : (fun j => j = i ∨ L j) = fun j => j < n := by
              funext j
              exact propext ⟨hmd'.lt j, hall j⟩
            rw [he] at hmd'
            exact hend _ _ _ _ hmd'
        · exact .inl ⟨_, _, _, rfl, hmd', hall⟩
      · exact absurd (fun j hj => hahead (by omega) hmd.closed j (by omega)) hno
    · have hti : i = t := by
        have h1 : t ≤ i := Nat.le_of_not_lt hni
        rcases Nat.lt_or_ge t i with h2 | h2
        · have h3 := hahead (by omega) (fun j hj d hdj => by
            obtain ⟨q, hq⟩ : ∃ q, l[j]? = some q := ⟨_, List.getElem?_eq_getElem (by omega)⟩
            obtain ⟨e, e1, e2, rfl⟩ := deps_binds hq hdj
            have := back_spec hb (by simpa using hq) e e1 e2
            omega) t h2
          omega
        · omega
      subst hti
      have hdr : l.drop i = o :: l.drop (i + 1) := by
        rw [List.drop_eq_getElem_cons hil]
        congr 1
        obtain ⟨_, h2⟩ := List.getElem?_eq_some_iff.1 ho
        exact h2
      rw [hdr] at hwp
      have hset : (fun j => j = i ∨ j < i) = fun j => j < i + 1 := by
        funext j
        apply propext
        omega
      unfold wpOp
      rw [hoa]
      dsimp only
      unfold wpList at hwp
      split
      · rename_i hw
        rw [if_pos hw] at hwp
        rcases hwp with hwp | hwp
        · refine .inl (wp_weaken (fun a' w' hK => ?_) (fun _ _ _ h => h) (fun h => h) hwp)
          exact .inr ⟨i + 1, by omega, hset, hK⟩
        · exact .inr hwp
      · rename_i hw
        rw [if_neg hw] at hwp
        exact .inr ⟨i + 1, by omega, hset, hwp⟩
  · rintro L a w hall hcase
    rcases hcase with ⟨xs, lo, hi, rfl, hmd, hno⟩ | ⟨t, hnt, rfl, hwp⟩
    · exact absurd (fun j hj => hall j (by omega)) hno
    · have h1 : l.drop t = [] := by
        rw [List.drop_eq_nil_iff]
        rcases Nat.lt_or_ge t l.length with h2 | h2
        · have := hall t h2
          omega
        · exact h2
      rw [h1] at hwp
      exact hwp

/-- One operation whose run is known, as a step. -/
theorem step_run {o : Oper} {a : Act} {w w' : World} {i : Nat} (v : Value) (hrun : (execOp a.eval o).run P w = .ok (.value v) w') (hbel : Below w.heap.size w w')
    (hr : (R i).p v ((deps l i).map fun d => xs.getD d undef) w.heap.size w'.heap.size w') : o.wp P a w (fun a' w' => ∃ v, a' = a.put o.dst v ∧ Below w.heap.size w w' ∧ (R i).p v ((deps l i).map fun d => xs.getD d undef) w.heap.size w'.heap.size w') (fun _ _ _ => False) :=
  opv_run hrun ⟨v, rfl, hbel, hr⟩
/-- One that changes nothing. -/
theorem step_pure {o : Oper} {a : Act} {w : World} {i : Nat} (v : Value) (hrun : (execOp a.eval o).run P w = .ok (.value v) w)
    (hr : (R i).p v ((deps l i).map fun d => xs.getD d undef) w.heap.size w.heap.size w) : o.wp P a w (fun a' w' => ∃ v, a' = a.put o.dst v ∧ Below w.heap.size w w' ∧ (R i).p v ((deps l i).map fun d => xs.getD d undef) w.heap.size w'.heap.size w') (fun _ _ _ => False) :=
  step_run v hrun (Below.refl _ _) hr
/-- One that makes a block. -/
theorem step_new {o : Oper} {a : Act} {w : World} {i : Nat} (v : Value) (x : Obj) (hrun : (execOp a.eval o).run P w = .ok (.value v) (w.alloc x))
    (hr : (R i).p v ((deps l i).map fun d => xs.getD d undef) w.heap.size (w.alloc x).heap.size (w.alloc x)) : o.wp P a w (fun a' w' => ∃ v, a' = a.put o.dst v ∧ Below w.heap.size w w' ∧ (R i).p v ((deps l i).map fun d => xs.getD d undef) w.heap.size w'.heap.size w') (fun _ _ _ => False) :=
  step_run v hrun ((Below.refl _ _).alloc (Nat.le_refl _) _) hr
/-- One call whose contract is known, as a step. -/
theorem step_call {o : Oper} {a : Act} {w : World} {i : Nat} {f : FuncId} {args : Array Value} {E : Ending → World → Prop} (hc : Calls P f args w E) (hrun : (execOp a.eval o).run P w = .ok (.enter f args) w)
    (hK : ∀ e w', E e w' → ∃ v, e = .returned v ∧ Below w.heap.size w w' ∧ (R i).p v ((deps l i).map fun d => xs.getD d undef) w.heap.size w'.heap.size w') : o.wp P a w (fun a' w' => ∃ v, a' = a.put o.dst v ∧ Below w.heap.size w w' ∧ (R i).p v ((deps l i).map fun d => xs.getD d undef) w.heap.size w'.heap.size w') (fun _ _ _ => False) :=
  op_call hrun hc fun e w' hE => let ⟨v, he, hb, hp⟩ := hK e w' hE; ⟨v, he, v, rfl, hb, hp⟩
end
/-- Cells and contracts at all worlds behind one. -/
theorem kin_cell {C : World → Prop} {w : World} (hC : C = fun w' => Below w.heap.size w w') {b o : Nat} {v : Value} (h : w.cell? ⟨b, o, none⟩ = some v) : ∀ y : Kin C, y.w.cell? ⟨b, o, none⟩ = some v := by
  subst hC
  exact fun y => below_cells y.has _ _ h
theorem kin_call {P : Program} {C : World → Prop} {w : World} (hC : C = fun w' => Below w.heap.size w w') {f : FuncId} {args : Array Value} {v : Value}
    (h : ∀ y, Below w.heap.size w y → Calls P f args y fun e w' => e = .returned v ∧ Below y.heap.size y w') : ∀ y : Kin C, Calls P f args y.w fun e w' => e = .returned v ∧ C w' := by
  subst hC
  exact fun y => (h y.w y.has).mono fun e w' ⟨he, hb⟩ => ⟨he, y.has.trans (hb.mono y.has.size)⟩
/-- Runs of single operations. -/
theorem ex_convert {P : Program} {o : Oper} {a : Act} {w w' : World} {v vx : Value} (x : Operand) (f t : TypeId) (ho : o.op = .convert f t x) (hx : a.eval x = vx) (hrun : (convert f t vx).run P w = .ok v w') : (execOp a.eval o).run P w = .ok (.value v) w' := by
  simp [execOp, ho, hx, hrun, Result.andThen]
theorem ex_make {P : Program} {o : Oper} {a : Act} {w w' : World} {v vx : Value} (x : Operand) (t : TypeId) (ho : o.op = .makeSlice t x x) (hx : a.eval x = vx) (hrun : (Instr.makeSlice t vx vx).run P w = .ok v w') : (execOp a.eval o).run P w = .ok (.value v) w' := by
  simp [execOp, ho, hx, hrun, Result.andThen]
end Go.Proofs.YtmakghcoehkphaaGreat
end

section
/-
  wire.witnessed, wire.Encode, wire.Bare. Conditions: no more than a thousand Outs.
-/
namespace Go.Proofs.YtmakghcoehkphaaGreat
open Go.RowKit Go.BigFrame
set_option linter.unusedVariables false
set_option linter.unusedSimpArgs false

/-- The predicate's contract, wherever the call stands. -/
def PredWit (w : World) (p : PIn → Bool) : Prop :=
  ∀ (w' : World) (v : Value) (x : PIn), Below w.heap.size w w' → InAt w' v x → Calls Tryz.prog 139 #[v] w' fun e w'' => e = .returned (.bool (p x)) ∧ Below w'.heap.size w' w''
set_option maxRecDepth 100000 in
set_option maxHeartbeats 2000000 in
theorem idxWit (v : Value) (xs : List PIn) (p : PIn → Bool) (w : World) (hv : SlAt rpIn w v xs) (hp : PredWit w p) :
    Calls Tryz.prog 129 #[v, .func (.func 139) #[] #[]] w fun e w' => (∃ n : Int, e = .returned (.int .i64 n) ∧ IdxIs p xs n) ∧ Below w.heap.size w w' := by
  obtain ⟨a, c, rfl, hl1, hl2⟩ := hv.shape
  rw [maxLen_eq] at hl2
  obtain ⟨n, hn⟩ : ∃ n, n = xs.length := ⟨_, rfl⟩
  rw [← hn] at hv hl1 ⊢
  have HN := Lib.hid hn
  have HP := Lib.hid hp
  clear hn hp
  go_enter Tryz.func129, Tryz.ntmps129
  go_wp2_with fail
  go_loopw [5, 8] (fun _ i wr => ∃ k : Nat, k ≤ n ∧ i = .int .i64 k ∧ Below w.heap.size w wr ∧ ∀ (j : Nat) (y : PIn), j < k → xs[j]? = some y → p y = false) (fun _ i _ => n - (intOf i).toNat)
  case atStart => exact ⟨0, Nat.zero_le _, rfl, Below.refl _ _, fun j x hj => absurd hj (Nat.not_lt_zero _)⟩
  case round =>
    rename World => wo
    obtain ⟨k, hk, rfl, hbw, hsame⟩ := hrel
    have HS := Lib.hid hsame
    have HW := Lib.hid hbw
    by_cases hlt : k < n
    · obtain ⟨b, o, x, wv, rfl, hx, hseq, hidx, hid, hwv, d0, d1, d2, d3⟩ := (hv.mono (below_cells hbw)).inp hlt
      have hc := HP.out wo (.agg #[.string x.id, .int .u32 x.idx, .int .u32 x.seq, wv]) x hbw ⟨wv, rfl, hwv, hidx, hseq, hid⟩
      have HX := Lib.hid hx
      obtain ⟨wa, wc, rfl, -, -⟩ := hwv.shape
      clear hx hseq hwv hbw hsame hv hidx hid
      cases hpx : p x
      · rw [hpx] at hc
        have HC := Lib.hid hc
        have HNX := Lib.hid (before_step HS.out HX.out hpx)
        clear hc hpx
        go_wp2_with fail
        refine HC.out.mono ?_
        rintro e w1 ⟨rfl, hb1⟩
        have HB1 := Lib.hid (HW.out.trans (hb1.mono HW.out.size))
        clear hb1
        go_wp2
        go_roundw
        case rel => exact ⟨k + 1, by omega, by go_num, HB1.out, HNX.out⟩
        case measure => simp [intOf]; omega
      · rw [hpx] at hc
        have HC := Lib.hid hc
        have HFN := Lib.hid (show IdxIs p xs (k : Int) from .inr ⟨k, x, rfl, HX.out, hpx, HS.out⟩)
        clear hc hpx
        go_wp2_with fail
        refine HC.out.mono ?_
        rintro e w1 ⟨rfl, hb1⟩
        have HB1 := Lib.hid (HW.out.trans (hb1.mono HW.out.size))
        clear hb1
        go_wp2
        go_ret
        exact ⟨⟨_, rfl, HFN.out⟩, HB1.out⟩
    · obtain rfl : k = n := by omega
      have HF := Lib.hid (any_no HN.out hsame)
      clear hsame hbw hv
      go_wp2
      go_ret
      exact ⟨⟨_, rfl, .inl ⟨rfl, HF.out⟩⟩, HW.out⟩
set_option maxHeartbeats 2000000 in
theorem conWit (v : Value) (xs : List PIn) (p : PIn → Bool) (w : World) (hv : SlAt rpIn w v xs) (hp : PredWit w p) :
    Calls Tryz.prog 95 #[v, .func (.func 139) #[] #[]] w fun e w' => e = .returned (.bool (xs.any p)) ∧ Below w.heap.size w w' := by
  have HI := Lib.hid (idxWit v xs p w hv hp)
  obtain ⟨a, c, rfl, hl1, hl2⟩ := hv.shape
  clear hv hl1 hl2 hp
  generalize xs.length = n at *
  go_enter Tryz.func95, Tryz.ntmps95
  go_wp2_with fail
  refine HI.out.mono ?_
  rintro e w1 ⟨⟨m, rfl, hm⟩, hb1⟩
  have HM := Lib.hid hm.any
  clear hm
  go_wp2
  go_ret
  exact ⟨ret_bool HM.out, hb1⟩



set_option maxRecDepth 100000 in
set_option maxHeartbeats 1000000 in
theorem wit1_any (v : Value) (x : PIn) (w : World) (hv : InAt w v x) : Calls Tryz.prog 139 #[v] w fun e w' => e = .returned (.bool (decide (0 < x.wit.length))) ∧ Below w.heap.size w w' := by
  obtain ⟨wv, rfl, hw, -, -, -⟩ := hv
  obtain ⟨a, c, rfl, h1, h2⟩ := hw.shape
  clear hw
  rw [maxLen_eq] at h2
  generalize x.wit.length = n at *
  go_enter Tryz.func139, Tryz.ntmps139
  go_wp2
  go_ret
  exact ⟨ret_bool (by first | (simp; done) | (simp; omega)), (Below.refl _ _).alloc (Nat.le_refl _) _⟩
set_option maxRecDepth 100000 in
set_option maxHeartbeats 1000000 in
theorem witnessed_any (v : Value) (t : PTx) (w : World) (hv : TxAt w v t) : Calls Tryz.prog 109 #[v] w (BIs (witOf t) w) := by
  obtain ⟨va, vo, rfl, hia, hob, -, -⟩ := hv
  obtain ⟨a, c, rfl, hl1, hl2⟩ := hia.shape
  obtain ⟨a', c', rfl, hl1', hl2'⟩ := hob.shape
  rw [maxLen_eq] at hl2 hl2'
  have HTB := Lib.hid (TB.start hia hob)
  clear hia hob
  go_enter Tryz.func109, Tryz.ntmps109
  have HCON := Lib.hid (conWit _ t.ins (fun x => decide (0 < x.wit.length)) _ HTB.out.ins (fun w' v' y hb hy => wit1_any v' y w' hy))
  have HW := Lib.hid (show witOf t = t.ins.any fun x => decide (0 < x.wit.length) from rfl)
  have HB := Lib.hid HTB.out.bel
  have c1 : (w.alloc (.cells #[.int .u32 t.ver, .slice a t.ins.length c, .slice a' t.outs.length c', .int .u32 t.lock] 44)).cell? ⟨w.heap.size, 1, none⟩ = some (.slice a t.ins.length c) := cell_at HTB.out.box
  clear HTB
  generalize witOf t = wt at *
  generalize (t.ins.any fun x => decide (0 < x.wit.length)) = bb at *
  generalize t.ins.length = n at *
  generalize t.outs.length = n' at *
  go_upto_region 1 with fail
  generalize w.alloc (.cells #[.int .u32 t.ver, .slice a n c, .slice a' n' c', .int .u32 t.lock] 44) = w0 at *
  go_wp2_with fail
  refine HCON.out.mono ?_
  rintro e w' ⟨rfl, hb⟩
  have HB2 := Lib.hid (HB.out.trans (hb.mono HB.out.size))
  clear hb
  go_wp2_with fail
  go_ret
  exact ⟨ret_bool HW.out.symm, HB2.out⟩

theorem witsL_le {t : PTx} (he : Enc t) (b : Bool) : (witsL b t.ins).length ≤ 110000 := by
  have h2 := flat_le witB 400 t.ins fun x hx => witB_le (he.ids x hx).2
  have h3 := he.ins
  unfold witsL
  split
  · omega
  · simp
theorem encL_le {t : PTx} (he : Enc t) (b : Bool) : (encL t b).length ≤ 200000 := by
  have h1 := preE_le he b
  have h2 := witsL_le he b
  have e : encL t b = preE t b ++ (witsL b t.ins ++ leB t.lock 4) := by simp [preE, preC, preA, encL, List.append_assoc]
  rw [e, List.length_append, List.length_append, leB_length]
  omega
/-- It returns this text and this error, and makes new blocks alone. -/
def TIs (s : ByteArray) (c : Int) (w : World) (e : Ending) (w' : World) : Prop := e = .returned (.tuple #[.string s, .int .i64 c]) ∧ Below w.heap.size w w'
noncomputable def encE (t : PTx) (b : Bool) : ByteArray := if checkOf t = 0 then bL (encL t b) else bL []

set_option maxRecDepth 100000 in
set_option maxHeartbeats 2000000 in
theorem wenc_any (v : Value) (t : PTx) (w : World) (hv : TxAt w v t) (hlen : t.outs.length ≤ 1000) : Calls Tryz.prog 80 #[v] w (TIs (encE t (witOf t)) (checkOf t) w) := by
  obtain ⟨va, vo, rfl, hia, hob, hv1, hv2⟩ := hv
  obtain ⟨a, c, rfl, hl1, hl2⟩ := hia.shape
  obtain ⟨a', c', rfl, hl1', hl2'⟩ := hob.shape
  have HTB := Lib.hid (TB.start hia hob)
  have HV := Lib.hid (And.intro hv1 hv2)
  have HO := Lib.hid hlen
  clear hia hob hv1 hv2 hl1 hl2 hl1' hl2' hlen
  obtain ⟨r, hr⟩ : ∃ r, r = encE t (witOf t) := ⟨_, rfl⟩
  rw [← hr]
  unfold encE at hr
  have HR := Lib.hid hr
  clear hr
  go_enter Tryz.func80, Tryz.ntmps80
  go_upto_region 1 with fail
  obtain ⟨n, hn⟩ : ∃ n, n = t.ins.length := ⟨_, rfl⟩
  obtain ⟨n', hn'⟩ : ∃ n, n = t.outs.length := ⟨_, rfl⟩
  rw [← hn, ← hn'] at HTB
  rw [← hn, ← hn']
  clear hn hn'
  generalize w.alloc (.cells #[.int .u32 t.ver, .slice a n c, .slice a' n' c', .int .u32 t.lock] 44) = w0 at *
  have c0 : w0.cell? ⟨w.heap.size, 0, none⟩ = some (.int .u32 t.ver) := cell_at HTB.out.box
  have c1 : w0.cell? ⟨w.heap.size, 1, none⟩ = some (.slice a n c) := cell_at HTB.out.box
  have c2 : w0.cell? ⟨w.heap.size, 2, none⟩ = some (.slice a' n' c') := cell_at HTB.out.box
  have c3 : w0.cell? ⟨w.heap.size, 3, none⟩ = some (.int .u32 t.lock) := cell_at HTB.out.box
  have HCK := Lib.hid (check_any _ t w0 (HTB.out.tx HV.out) HO.out)
  by_cases hc : checkOf t = 0
  · have HC0 := Lib.hid hc
    have HR2 := Lib.hid (show r = bL (encL t (witOf t)) from HR.out.trans (if_pos hc))
    rw [hc] at HCK
    clear hc HR
    go_wp2_with fail
    refine (HCK.out).mono ?_
    rintro e w1 ⟨rfl, hb⟩
    replace c0 := below_cells hb _ _ c0
    replace c1 := below_cells hb _ _ c1
    replace c2 := below_cells hb _ _ c2
    replace c3 := below_cells hb _ _ c3
    have HTB := Lib.hid (HTB.out.next hb)
    clear hb
    go_wp2_with fail
    obtain ⟨C, hC⟩ : ∃ C : World → Prop, C = fun w' => Below w1.heap.size w1 w' := ⟨_, rfl⟩
    have kc0 := kin_cell hC c0
    have kc1 := kin_cell hC c1
    have kc2 := kin_cell hC c2
    have kc3 := kin_cell hC c3
    have QW := Lib.hid (kin_call hC fun y h => witnessed_any _ t y ((HTB.out.tx HV.out).below h))
    have QE := Lib.hid (kin_call hC fun y h => encode_any _ t (witOf t) y ((HTB.out.tx HV.out).below h) (enc_of (whole_of HC0.out)))
    have HC := Lib.hid hC
    clear hC
    refine wp_region_kin C (by kernel_rfl) (by kernel_rfl) (by rw [HC.out]; exact ⟨rfl, rfl, rfl, Nat.le_refl _, fun _ _ => rfl⟩) ?_
    intro hne
    repeat (first | (go_big_quiet_step (first | (rename_i y; go_at_call 109; exact Calls.kin (QW.out y) (fun w' h => h)) | (rename_i y; go_at_call 108; exact Calls.kin (QE.out y) (fun w' h => h)))) | (quiet_step (first | (rename_i y; go_at_call 109; exact Calls.kin (QW.out y) (fun w' h => h)) | (rename_i y; go_at_call 108; exact Calls.kin (QE.out y) (fun w' h => h)))))
    refine wpQuiet_nil ?_
    intro _ hw'
    obtain ⟨kx, hw''⟩ := hw'
    subst hw''
    obtain ⟨w2, hxc⟩ := kx
    rw [HC.out] at hxc
    clear HC hne kc0 kc1 kc2 kc3
    have HB := Lib.hid (HTB.out.bel.trans (hxc.mono HTB.out.bel.size))
    clear hxc
    go_wp2_with fail
    exact bodyPost_ret (v := .tuple #[.string (bL (encL t (witOf t))), .int .i64 0]) (by simp [results, Tryz.results80, go_sem]) rfl ⟨by rw [HR2.out, HC0.out], HB.out⟩
  · have HR2 := Lib.hid (show r = bL [] from HR.out.trans (if_neg hc))
    clear HR
    have hc0 := hc
    generalize checkOf t = ck at *
    have hne : (ck == 0) = false := by simpa using hc0
    go_wp2_with fail
    refine (HCK.out).mono ?_
    rintro e w1 ⟨rfl, hb⟩
    have HTB := Lib.hid (HTB.out.next hb)
    clear hb
    have HB := Lib.hid HTB.out.bel
    go_wp2_with fail
    exact bodyPost_ret (v := .tuple #[.string ⟨#[]⟩, .int .i64 ck]) (by simp [results, Tryz.results80, go_sem]) rfl ⟨by rw [HR2.out]; rfl, HB.out⟩

set_option maxRecDepth 100000 in
set_option maxHeartbeats 2000000 in
theorem wbare_any (v : Value) (t : PTx) (w : World) (hv : TxAt w v t) (hlen : t.outs.length ≤ 1000) : Calls Tryz.prog 79 #[v] w (TIs (encE t false) (checkOf t) w) := by
  obtain ⟨va, vo, rfl, hia, hob, hv1, hv2⟩ := hv
  obtain ⟨a, c, rfl, hl1, hl2⟩ := hia.shape
  obtain ⟨a', c', rfl, hl1', hl2'⟩ := hob.shape
  have HTB := Lib.hid (TB.start hia hob)
  have HV := Lib.hid (And.intro hv1 hv2)
  have HO := Lib.hid hlen
  clear hia hob hv1 hv2 hl1 hl2 hl1' hl2' hlen
  obtain ⟨r, hr⟩ : ∃ r, r = encE t false := ⟨_, rfl⟩
  rw [← hr]
  unfold encE at hr
  have HR := Lib.hid hr
  clear hr
  go_enter Tryz.func79, Tryz.ntmps79
  go_upto_region 1 with fail
  obtain ⟨n, hn⟩ : ∃ n, n = t.ins.length := ⟨_, rfl⟩
  obtain ⟨n', hn'⟩ : ∃ n, n = t.outs.length := ⟨_, rfl⟩
  rw [← hn, ← hn'] at HTB
  rw [← hn, ← hn']
  clear hn hn'
  generalize w.alloc (.cells #[.int .u32 t.ver, .slice a n c, .slice a' n' c', .int .u32 t.lock] 44) = w0 at *
  have c0 : w0.cell? ⟨w.heap.size, 0, none⟩ = some (.int .u32 t.ver) := cell_at HTB.out.box
  have c1 : w0.cell? ⟨w.heap.size, 1, none⟩ = some (.slice a n c) := cell_at HTB.out.box
  have c2 : w0.cell? ⟨w.heap.size, 2, none⟩ = some (.slice a' n' c') := cell_at HTB.out.box
  have c3 : w0.cell? ⟨w.heap.size, 3, none⟩ = some (.int .u32 t.lock) := cell_at HTB.out.box
  have HCK := Lib.hid (check_any _ t w0 (HTB.out.tx HV.out) HO.out)
  by_cases hc : checkOf t = 0
  · have HC0 := Lib.hid hc
    have HR2 := Lib.hid (show r = bL (encL t false) from HR.out.trans (if_pos hc))
    rw [hc] at HCK
    clear hc HR
    go_wp2_with fail
    refine (HCK.out).mono ?_
    rintro e w1 ⟨rfl, hb⟩
    replace c0 := below_cells hb _ _ c0
    replace c1 := below_cells hb _ _ c1
    replace c2 := below_cells hb _ _ c2
    replace c3 := below_cells hb _ _ c3
    have HTB := Lib.hid (HTB.out.next hb)
    clear hb
    go_wp2_with fail
    refine (encode_any _ t false w1 (HTB.out.tx HV.out) (enc_of (whole_of HC0.out))).mono ?_
    rintro e w2 ⟨rfl, hb⟩
    have HTB := Lib.hid (HTB.out.next hb)
    clear hb
    have HB := Lib.hid HTB.out.bel
    go_wp2_with fail
    exact bodyPost_ret (v := .tuple #[.string (bL (encL t false)), .int .i64 0]) (by simp [results, Tryz.results79, go_sem]) rfl ⟨by rw [HR2.out, HC0.out], HB.out⟩
  · have HR2 := Lib.hid (show r = bL [] from HR.out.trans (if_neg hc))
    clear HR
    have hc0 := hc
    generalize checkOf t = ck at *
    have hne : (ck == 0) = false := by simpa using hc0
    go_wp2_with fail
    refine (HCK.out).mono ?_
    rintro e w1 ⟨rfl, hb⟩
    have HTB := Lib.hid (HTB.out.next hb)
    clear hb
    have HB := Lib.hid HTB.out.bel
    go_wp2_with fail
    exact bodyPost_ret (v := .tuple #[.string ⟨#[]⟩, .int .i64 ck]) (by simp [results, Tryz.results79, go_sem]) rfl ⟨by rw [HR2.out]; rfl, HB.out⟩
end Go.Proofs.YtmakghcoehkphaaGreat
end

section
/-
  kedgeref06.Bytes. Conditions: those of Enc.
-/
namespace Go.Proofs.YtmakghcoehkphaaGreat
open Go.RowKit Go.BigFrame
set_option linter.unusedVariables false
set_option linter.unusedSimpArgs false

def mkB (bare : Bool) (l : List PIn) : Bool := !bare && l.any fun x => decide (0 < x.wit.length)
theorem mkB_step (bare : Bool) {l : List PIn} {k : Nat} {x : PIn} (h : l[k]? = some x) : mkB bare (l.take (k + 1)) = (mkB bare (l.take k) || (!bare && decide (0 < x.wit.length))) := by
  unfold mkB
  rw [List.take_add_one, h]
  cases bare <;> simp
theorem vint_size (n : Nat) : (bL (vintL n)).size ≤ 9 := by rw [bL_size]; exact vintL_le n
theorem leb_size (n k : Nat) : (bL (leB n k)).size = k := by rw [bL_size, leB_length]
theorem str_app {s s' : ByteArray} {L M : List UInt8} (h : s = bL L) (h' : s' = bL M) : s ++ s' = bL (L ++ M) := by rw [h, h', bL_app]

end Go.Proofs.YtmakghcoehkphaaGreat
end

section
/-
  SHA-256: the constants. Conditions: none beyond each theorem's own.
-/
namespace Go.Proofs.YtmakghcoehkphaaGreat
open Go.RowKit Go.BigFrame
set_option linter.unusedVariables false
set_option linter.unusedSimpArgs false

def kList : List Nat := [1116352408, 1899447441, 3049323471, 3921009573, 961987163, 1508970993, 2453635748, 2870763221, 3624381080, 310598401, 607225278, 1426881987, 1925078388, 2162078206, 2614888103, 3248222580, 3835390401, 4022224774, 264347078, 604807628, 770255983, 1249150122, 1555081692, 1996064986, 2554220882, 2821834349, 2952996808, 3210313671, 3336571891, 3584528711, 113926993, 338241895, 666307205, 773529912, 1294757372, 1396182291, 1695183700, 1986661051, 2177026350, 2456956037, 2730485921, 2820302411, 3259730800, 3345764771, 3516065817, 3600352804, 4094571909, 275423344, 430227734, 506948616, 659060556, 883997877, 958139571, 1322822218, 1537002063, 1747873779, 1955562222, 2024104815, 2227730452, 2361852424, 2428436474, 2756734187, 3204031479, 3329325298]
def kF (i : Nat) : W32 := BitVec.ofNat 32 (kList.getD i 0)
def hSt : St := ⟨1779033703, 3144134277, 1013904242, 2773480762, 1359893119, 2600822924, 528734635, 1541459225⟩
theorem keys_val : (Value.agg (arrV 64 kF)) = .agg #[.int .u32 1116352408, .int .u32 1899447441, .int .u32 3049323471, .int .u32 3921009573, .int .u32 961987163, .int .u32 1508970993, .int .u32 2453635748, .int .u32 2870763221, .int .u32 3624381080, .int .u32 310598401, .int .u32 607225278, .int .u32 1426881987, .int .u32 1925078388, .int .u32 2162078206, .int .u32 2614888103, .int .u32 3248222580, .int .u32 3835390401, .int .u32 4022224774, .int .u32 264347078, .int .u32 604807628, .int .u32 770255983, .int .u32 1249150122, .int .u32 1555081692, .int .u32 1996064986, .int .u32 2554220882, .int .u32 2821834349, .int .u32 2952996808, .int .u32 3210313671, .int .u32 3336571891, .int .u32 3584528711, .int .u32 113926993, .int .u32 338241895, .int .u32 666307205, .int .u32 773529912, .int .u32 1294757372, .int .u32 1396182291, .int .u32 1695183700, .int .u32 1986661051, .int .u32 2177026350, .int .u32 2456956037, .int .u32 2730485921, .int .u32 2820302411, .int .u32 3259730800, .int .u32 3345764771, .int .u32 3516065817, .int .u32 3600352804, .int .u32 4094571909, .int .u32 275423344, .int .u32 430227734, .int .u32 506948616, .int .u32 659060556, .int .u32 883997877, .int .u32 958139571, .int .u32 1322822218, .int .u32 1537002063, .int .u32 1747873779, .int .u32 1955562222, .int .u32 2024104815, .int .u32 2227730452, .int .u32 2361852424, .int .u32 2428436474, .int .u32 2756734187, .int .u32 3204031479, .int .u32 3329325298] := by kernel_rfl
theorem begin_val : hSt.val = .agg #[.int .u32 1779033703, .int .u32 3144134277, .int .u32 1013904242, .int .u32 2773480762, .int .u32 1359893119, .int .u32 2600822924, .int .u32 528734635, .int .u32 1541459225] := by kernel_rfl

attribute [-go_sem] loadCellsFrom
end Go.Proofs.YtmakghcoehkphaaGreat
end

section
/-
  SHA-256: a word of four bytes, put together by sums or by shifts. Conditions: those named in each lemma.
-/
namespace Go.Proofs.YtmakghcoehkphaaGreat
open Go.RowKit
set_option linter.unusedVariables false

theorem shl_or (x y : W32) (hx : x.toNat < 16777216) (hy : y.toNat < 256) : x <<< (8 : Nat) ||| y = x * 256 + y := by
  apply BitVec.eq_of_toNat_eq
  have h1 : (x <<< (8 : Nat)).toNat = x.toNat <<< 8 := by
    rw [BitVec.toNat_shiftLeft, Nat.shiftLeft_eq]
    exact Nat.mod_eq_of_lt (by omega)
  rw [BitVec.toNat_or, h1, ← Nat.shiftLeft_add_eq_or_of_lt (show y.toNat < 2 ^ 8 from hy), Nat.shiftLeft_eq, BitVec.toNat_add, BitVec.toNat_mul]
  have h2 : (256 : W32).toNat = 256 := by decide
  rw [h2]
  omega
theorem toNat_step (x y : W32) (hx : x.toNat < 16777216) (hy : y.toNat < 256) : (x * 256 + y).toNat = x.toNat * 256 + y.toNat := by
  rw [BitVec.toNat_add, BitVec.toNat_mul]
  have h2 : (256 : W32).toNat = 256 := by decide
  rw [h2]
  omega
theorem msg_sum (a b c d : W32) (ha : a.toNat < 256) (hb : b.toNat < 256) (hc : c.toNat < 256) (hd : d.toNat < 256) :
    ((a <<< (8 : Nat) ||| b) <<< (8 : Nat) ||| c) <<< (8 : Nat) ||| d = a * 16777216 + b * 65536 + c * 256 + d := by
  have e1 := toNat_step a b (by omega) hb
  rw [shl_or a b (by omega) hb]
  have e2 := toNat_step (a * 256 + b) c (by omega) hc
  rw [shl_or _ c (by omega) hc, shl_or _ d (by omega) hd]
  clear e1 e2 ha hb hc hd
  rw [show (16777216 : W32) = 256 * 256 * 256 by decide, show (65536 : W32) = 256 * 256 by decide]
  rw [BitVec.add_mul, BitVec.add_mul, BitVec.add_mul]
  simp only [BitVec.mul_assoc]
end Go.Proofs.YtmakghcoehkphaaGreat
end

section
/-
  SHA-256 as a plain function of a list of bytes; its value at the text abc. Conditions: those named in each lemma.
-/
namespace Go.Proofs.YtmakghcoehkphaaGreat
open Go.RowKit
set_option linter.unusedVariables false
set_option linter.unusedSimpArgs false

def addSt (x y : St) : St := ⟨x.a + y.a, x.b + y.b, x.c + y.c, x.d + y.d, x.e + y.e, x.f + y.f, x.g + y.g, x.h + y.h⟩
def byL (l : List UInt8) (i : Nat) : W32 := BitVec.ofNat 32 (l.getD i 0).toNat
/-- A word of a block that begins at o. -/
def msgL (l : List UInt8) (o i : Nat) : W32 := ((((byL l (o + 4 * i)) <<< 8 ||| byL l (o + (4 * i + 1))) <<< 8 ||| byL l (o + (4 * i + 2))) <<< 8 ||| byL l (o + (4 * i + 3)))
def rounds (f : Nat → W32) (x : St) : Nat → St
  | 0 => x
  | i + 1 => rnd (rounds f x i) (kF i) (f i)
def blk (m : Nat → W32) (h : St) : St := addSt h (rounds (sch m 64) h 64)
def blks (l : List UInt8) : Nat → St
  | 0 => hSt
  | i + 1 => blk (msgL l (64 * i)) (blks l i)
def zerosOf (n : Nat) : Nat := (119 - n % 64) % 64
def padL (l : List UInt8) : List UInt8 := l ++ (128 :: List.replicate (zerosOf l.length) 0) ++ beL (l.length * 8) 8
def stL (h : St) : List UInt8 := beL h.a.toNat 4 ++ beL h.b.toNat 4 ++ beL h.c.toNat 4 ++ beL h.d.toNat 4 ++ beL h.e.toNat 4 ++ beL h.f.toNat 4 ++ beL h.g.toNat 4 ++ beL h.h.toNat 4
/-- The digest. -/
def sumL (l : List UInt8) : List UInt8 := stL (blks (padL l) ((padL l).length / 64))

theorem stL_len (h : St) : (stL h).length = 32 := by simp [stL, beL_len]
theorem sumL_len (l : List UInt8) : (sumL l).length = 32 := stL_len _
theorem padL_len (l : List UInt8) : (padL l).length = l.length + zerosOf l.length + 9 := by
  simp [padL, beL_len]; omega
theorem padL_blocks (l : List UInt8) : (padL l).length = 64 * ((padL l).length / 64) ∧ 0 < (padL l).length / 64 := by
  rw [padL_len]; unfold zerosOf; omega
theorem zerosOf_le (n : Nat) : zerosOf n ≤ 63 := by unfold zerosOf; omega

theorem msgW_ext (s : ByteArray) (o j : Nat) : msgW (s.extract o s.size) j = msgL s.data.toList o j := by
  have h : ∀ i, byteW (s.extract o s.size) i = byL s.data.toList (o + i) := by
    intro i
    unfold byteW byL
    congr 2
    have hd : (s.extract o s.size).data = s.data.extract o s.size := by simp
    rw [hd, Array.toList_extract]
    have hs2 : s.data.toList.length = s.size := by simp
    simp only [List.extract_eq_take_drop, List.getD_eq_getElem?_getD, List.getElem?_take, List.getElem?_drop]
    by_cases hlt : i < s.size - o
    · rw [if_pos hlt]
    · rw [if_neg hlt, List.getElem?_eq_none (by omega)]
  unfold msgW msgL
  rw [h, h, h, h]

theorem rounds_same {f g : Nat → W32} (x : St) : ∀ n, (∀ i, i < n → f i = g i) → rounds f x n = rounds g x n
  | 0, _ => rfl
  | n + 1, h => by
    show rnd (rounds f x n) (kF n) (f n) = rnd (rounds g x n) (kF n) (g n)
    rw [rounds_same x n (fun i hi => h i (by omega)), h n (by omega)]

/-- What comes behind the first sixteen, of the list of all so far, the last first. -/
def nxt (l : List W32) : W32 :=
  l.getD 15 0 + ((l.getD 14 0).rotateRight 7 ^^^ (l.getD 14 0).rotateRight 18 ^^^ (l.getD 14 0) >>> 3) + l.getD 6 0 + ((l.getD 1 0).rotateRight 17 ^^^ (l.getD 1 0).rotateRight 19 ^^^ (l.getD 1 0) >>> 10)
def schL (m : Nat → W32) : Nat → List W32
  | 0 => []
  | k + 1 => (if k < 16 then m k else nxt (schL m k)) :: schL m k
theorem sch_list (m : Nat → W32) : ∀ k i, i < k → sch m k i = (schL m k).getD (k - 1 - i) 0
  | 0, _, h => absurd h (Nat.not_lt_zero _)
  | k + 1, i, h => by
    show upd (sch m k) k (if k < 16 then m k else nextW (sch m k) k) i = ((if k < 16 then m k else nxt (schL m k)) :: schL m k).getD (k + 1 - 1 - i) 0
    unfold upd
    by_cases hi : i = k
    · subst hi
      rw [if_pos rfl, show i + 1 - 1 - i = 0 by omega, List.getD_cons_zero]
      by_cases h16 : i < 16
      · rw [if_pos h16, if_pos h16]
      · rw [if_neg h16, if_neg h16]
        unfold nextW nxt
        rw [sch_list m i (i - 16) (by omega), sch_list m i (i - 15) (by omega), sch_list m i (i - 7) (by omega), sch_list m i (i - 2) (by omega),
          show i - 1 - (i - 16) = 15 by omega, show i - 1 - (i - 15) = 14 by omega, show i - 1 - (i - 7) = 6 by omega, show i - 1 - (i - 2) = 1 by omega]
    · rw [if_neg hi, sch_list m k i (by omega), show k + 1 - 1 - i = (k - 1 - i) + 1 by omega, List.getD_cons_succ]
theorem blk_list (m : Nat → W32) (h : St) : blk m h = addSt h (rounds (fun i => (schL m 64).getD (63 - i) 0) h 64) := by
  unfold blk
  rw [rounds_same h 64 (fun i hi => sch_list m 64 i hi)]
theorem sum_abc : sumL [97, 98, 99] = [0xba, 0x78, 0x16, 0xbf, 0x8f, 0x01, 0xcf, 0xea, 0x41, 0x41, 0x40, 0xde, 0x5d, 0xae, 0x22, 0x23, 0xb0, 0x03, 0x61, 0xa3, 0x96, 0x17, 0x7a, 0x9c, 0xb4, 0x10, 0xff, 0x61, 0xf2, 0x00, 0x15, 0xad] := by
  have h1 : (padL [97, 98, 99]).length / 64 = 1 := by decide +kernel
  unfold sumL
  rw [h1]
  show stL (blk _ hSt) = _
  rw [blk_list]
  decide +kernel
end Go.Proofs.YtmakghcoehkphaaGreat
end

section
/-
  SHA-256: the padded text, by appends. Conditions: the text has no more than 2^40 bytes.
-/
namespace Go.Proofs.YtmakghcoehkphaaGreat
open Go.RowKit Go.BigFrame
set_option linter.unusedVariables false
set_option linter.unusedSimpArgs false

theorem app_byte {w : World} {B n : Nat} {v : Value} {l : List UInt8} (hown : w.ownsRow B 5 1 v n (bytesOf l)) (hl : n ≤ 2199023255552) (hB : B ≤ w.heap.size) (b : UInt8) (x : Int) (hx : (b.toNat : Int) = x) :
    ∃ a' c' w', (Builtin.append_ #[102, 102] 102 #[v, .slice (some ⟨w.heap.size, 0, none⟩) 1 1]).run Tryz.prog (w.alloc (.cells #[.int .u8 x] 5)) = .ok (.slice a' (n + 1) c') w' ∧
      w'.ownsRow B 5 1 (.slice a' (n + 1) c') (n + 1) (bytesOf (l ++ [b])) ∧ Below B w w' := by
  obtain ⟨i0, hi, hz0, hz1, hz2⟩ := info_parts info_u8b
  obtain ⟨a', c', w', hrun, hown', hbw', -⟩ := append_el (P := Tryz.prog) (t := 102) (ty := 102) Tryz.underlying102 hi hz0 hz1 hz2 rfl hown #[.int .u8 x] rfl (by simp [Value.oneCell']) (by rw [maxLen_eq]; omega) (by omega) hB
  refine ⟨a', c', w', hrun, ?_, hbw'⟩
  rw [bytesOf_append, show bytesOf [b] = [.int .u8 x] by simp [bytesOf, hx]]
  exact hown'

theorem be_get (n k t : Nat) (h : t < k) : (beL n k)[t]? = some (UInt8.ofNat (n / 256 ^ (k - 1 - t))) := by
  induction k generalizing t with
  | zero => omega
  | succ k ih =>
    cases t with
    | zero => simp [beL]
    | succ t =>
      show (beL n k)[t]? = _
      rw [ih t (by omega), show k + 1 - 1 - (t + 1) = k - 1 - t by omega]
theorem be_take (n k t : Nat) (h : t < k) : (beL n k).take (t + 1) = (beL n k).take t ++ [UInt8.ofNat (n / 256 ^ (k - 1 - t))] := by
  have hl : t < (beL n k).length := by rw [beL_len]; exact h
  rw [List.take_succ_eq_append_getElem hl]
  congr 2
  have := be_get n k t h
  rw [List.getElem?_eq_getElem hl] at this
  exact Option.some.inj this
theorem be_take_len (n k t : Nat) (h : t ≤ k) : ((beL n k).take t).length = t := by rw [List.length_take, beL_len]; omega

/-- Padding is complete just behind as many zeros. -/
theorem zeros_full (n j : Nat) (hj : j ≤ zerosOf n) : (n + 1 + j) % 64 = 56 ↔ j = zerosOf n := by
  unfold zerosOf at *
  omega

theorem take_at (s : ByteArray) (j : Nat) (h : j < s.size) : s.data.toList.take (j + 1) = s.data.toList.take j ++ [s[j]] := by
  have hl : j < s.data.toList.length := by simpa using h
  rw [List.take_succ_eq_append_getElem hl]
  rfl
theorem shr_eight (n q k : Nat) (hk : q = k) : ((UInt8.ofNat (n / q)).toNat : Int) = (n : Int) / (k : Int) % 256 := by
  subst hk
  rw [UInt8.toNat_ofNat']
  omega

def PadIs (s : ByteArray) (w : World) (e : Ending) (w' : World) : Prop := ∃ v, e = .returned v ∧ Below w.heap.size w w' ∧ w'.ownsRow w.heap.size 5 1 v (padL s.data.toList).length (bytesOf (padL s.data.toList))
end Go.Proofs.YtmakghcoehkphaaGreat
end

section
/-
  SHA-256: sha.padded. Conditions: the text has no more than 2^40 bytes.
-/
namespace Go.Proofs.YtmakghcoehkphaaGreat
open Go.RowKit Go.BigFrame
set_option linter.unusedVariables false
set_option linter.unusedSimpArgs false

theorem srepeat_zero (c : Nat) : Lib.repeatL [(0 : UInt8)] c = List.replicate c 0 := by
  induction c with
  | zero => rfl
  | succ c ih => simp [Lib.repeatL, ih, List.replicate_succ]
theorem repeat0_any (c : Nat) (hc : c ≤ 63) (w : World) : Calls Tryz.prog 78 #[.string ⟨#[0]⟩, .int .i64 c] w fun e w' => e = .returned (.string ⟨(List.replicate c (0 : UInt8)).toArray⟩) ∧ Below w.heap.size w w' := by
  have h := Tryz.strings_Repeat (ByteArray.mk #[0]) c w (by omega) (by rw [show (ByteArray.mk #[0]).size = 1 from rfl]; omega)
  rw [show (ByteArray.mk #[0]).data.toList = [0] from rfl, srepeat_zero] at h
  exact h

def PaddedIs (s : ByteArray) (w : World) (e : Ending) (w' : World) : Prop := e = .returned (.string ⟨(padL s.data.toList).toArray⟩) ∧ Below w.heap.size w w'
end Go.Proofs.YtmakghcoehkphaaGreat
end

section
/-
  SHA-256: the document's block. Conditions: the slice has 64 bytes, which the list tells.
-/
namespace Go.Proofs.YtmakghcoehkphaaGreat
open Go.RowKit Go.BigFrame
set_option linter.unusedVariables false
set_option linter.unusedSimpArgs false

/-- The eight words as a function. -/
def St.fn (s : St) : Nat → W32
  | 0 => s.a
  | 1 => s.b
  | 2 => s.c
  | 3 => s.d
  | 4 => s.e
  | 5 => s.f
  | 6 => s.g
  | _ => s.h
theorem St.val_arr (s : St) : s.val = .agg (arrV 8 s.fn) := rfl

theorem ArrAt.other {w : World} {b n : Nat} {f : Nat → W32} (h : ArrAt w b n f) (p : Addr) (v : Value) (hp : p.block ≠ b) : ArrAt (w.setCell p v) b n f := by
  obtain ⟨cs, e, h1, h2, h3⟩ := h
  exact ⟨cs, e, (Below.heap_setCell _ _ _ _ (Ne.symm hp)).trans h1, h2, h3⟩
theorem ArrAt.rowOther {w : World} {b c n : Nat} {f : Nat → W32} (h : ArrAt w b n f) (x : Array Value) (hp : c ≠ b) : ArrAt (w.setRow c x) b n f := by
  obtain ⟨cs, e, h1, h2, h3⟩ := h
  exact ⟨cs, e, (setRow_other w c b _ (Ne.symm hp)).trans h1, h2, h3⟩
theorem below_row {B : Nat} {w wr : World} (h : Below B w wr) {c : Nat} (hc : B ≤ c) (x : Array Value) : Below B w (wr.setRow c x) :=
  ⟨h.os, h.tape, h.output, by have := h.size; simpa [World.setRow] using this, fun k hk => (setRow_other wr c k _ (by omega)).trans (h.block k hk)⟩

structure BW (w : World) (hs : Nat → W32) (K : Nat) (f : Nat → W32) (wr : World) : Prop where
  bel : Below w.heap.size w wr
  hh : ArrAt wr w.heap.size 8 hs
  res : ArrAt wr (w.heap.size + 1) 8 (fun _ => 0)
  ws : ArrAt wr (w.heap.size + 2) 64 f
  ks : ArrAt wr K 64 kF
  far : w.heap.size + 2 < K
theorem BW.next {w wr w' : World} {hs f : Nat → W32} {K : Nat} (h : BW w hs K f wr) (hb : Below wr.heap.size wr w') : BW w hs K f w' :=
  ⟨h.bel.trans (hb.mono h.bel.size), h.hh.next hb h.hh.lt, h.res.next hb h.res.lt, h.ws.next hb h.ws.lt, h.ks.next hb h.ks.lt, h.far⟩
theorem BW.put {w wr : World} {hs f : Nat → W32} {K : Nat} (h : BW w hs K f wr) (i : Nat) (x : W32) : BW w hs K (upd f i x) (wr.setCell ⟨w.heap.size + 2, i, none⟩ (.int .u32 (nv x))) :=
  ⟨h.bel.setCell (by simp) _, h.hh.other _ _ (by simp), h.res.other _ _ (by simp), h.ws.set x, h.ks.other _ _ (by have := h.far; simp; omega), h.far⟩
structure BX (w : World) (hs : Nat → W32) (K : Nat) (f : Nat → W32) (X : Nat) (g : Nat → W32) (wr : World) : Prop where
  b : BW w hs K f wr
  x : ArrAt wr X 8 g
  far : K < X
theorem BX.next {w wr w' : World} {hs f g : Nat → W32} {K X : Nat} (h : BX w hs K f X g wr) (hb : Below wr.heap.size wr w') : BX w hs K f X g w' :=
  ⟨h.b.next hb, h.x.next hb h.x.lt, h.far⟩
theorem BX.put {w wr : World} {hs f g : Nat → W32} {K X : Nat} (h : BX w hs K f X g wr) (i : Nat) (x : W32) : BX w hs K f X (upd g i x) (wr.setCell ⟨X, i, none⟩ (.int .u32 (nv x))) := by
  have f1 := h.far
  have f2 := h.b.far
  exact ⟨⟨h.b.bel.setCell (by simp; omega) _, h.b.hh.other _ _ (by simp; omega), h.b.res.other _ _ (by simp; omega), h.b.ws.other _ _ (by simp; omega), h.b.ks.other _ _ (by simp; omega), f2⟩, h.x.set x, h.far⟩

/-- The call's first three rows. -/
structure B0 (w : World) (hs : Nat → W32) (wr : World) : Prop where
  bel : Below w.heap.size w wr
  hh : ArrAt wr w.heap.size 8 hs
  res : ArrAt wr (w.heap.size + 1) 8 (fun _ => 0)
  ws : ArrAt wr (w.heap.size + 2) 64 (fun _ => 0)
  sz : w.heap.size + 2 < wr.heap.size
theorem arrAt_new (w : World) (n : Nat) (f : Nat → W32) (e : TypeId) : ArrAt (w.alloc (.cells (arrV n f) e)) w.heap.size n f :=
  ⟨_, e, heap_alloc_new w _, arrV_size n f, fun i hi => by simp [arrV, hi]⟩
theorem ArrAt.alloc {w : World} {b n : Nat} {f : Nat → W32} (h : ArrAt w b n f) (o : Obj) : ArrAt (w.alloc o) b n f :=
  h.next ((Below.refl _ _).alloc (Nat.le_refl _) o) h.lt
theorem rep_arr (n : Nat) : arrV n (fun _ => 0) = Array.replicate n (.int .u32 0) := by
  apply Array.ext
  · simp [arrV_size]
  · intro i h1 h2; simp [arrV]; exact nv_zero
theorem B0.start (w : World) (hs : Nat → W32) (e1 e2 e3 : TypeId) : B0 w hs (((w.alloc (.cells (arrV 8 hs) e1)).alloc (.cells (Array.replicate 8 (.int .u32 0)) e2)).alloc (.cells (Array.replicate 64 (.int .u32 0)) e3)) := by
  have s1 : (w.alloc (.cells (arrV 8 hs) e1)).heap.size = w.heap.size + 1 := by simp
  have s2 : ((w.alloc (.cells (arrV 8 hs) e1)).alloc (.cells (arrV 8 (fun _ => 0)) e2)).heap.size = w.heap.size + 2 := by simp
  rw [← rep_arr, ← rep_arr]
  refine ⟨(((Below.refl _ _).alloc (Nat.le_refl _) _).alloc (by simp) _).alloc (by simp; omega) _, ((arrAt_new w 8 hs e1).alloc _).alloc _, ?_, ?_, by simp⟩
  · have := arrAt_new (w.alloc (.cells (arrV 8 hs) e1)) 8 (fun _ => 0) e2
    rw [s1] at this
    exact this.alloc _
  · have := arrAt_new ((w.alloc (.cells (arrV 8 hs) e1)).alloc (.cells (arrV 8 (fun _ => 0)) e2)) 64 (fun _ => 0) e3
    rw [s2] at this
    exact this
theorem B0.next {w wr w' : World} {hs : Nat → W32} (h : B0 w hs wr) (hb : Below wr.heap.size wr w') : B0 w hs w' :=
  ⟨h.bel.trans (hb.mono h.bel.size), h.hh.next hb h.hh.lt, h.res.next hb h.res.lt, h.ws.next hb h.ws.lt, Nat.lt_of_lt_of_le h.sz hb.size⟩
theorem B0.keys {w wr : World} {hs : Nat → W32} (h : B0 w hs wr) (e : TypeId) : BW w hs wr.heap.size (fun _ => 0) ((wr.alloc (.cells (arrV 64 (fun _ => 0)) e)).setRow wr.heap.size (arrV 64 kF)) := by
  have hlt := h.sz
  exact ⟨below_row (h.bel.alloc h.bel.size _) h.bel.size _, (h.hh.alloc _).rowOther _ (by omega), (h.res.alloc _).rowOther _ (by omega), (h.ws.alloc _).rowOther _ (by omega), (arrAt_new wr 64 _ e).row, hlt⟩

theorem byL_range (l : List UInt8) (i : Nat) : 0 ≤ nv (byL l i) ∧ nv (byL l i) ≤ 255 := by
  unfold nv byL
  rw [BitVec.toNat_ofNat]
  have := (l.getD i 0).toNat_lt
  have : (l.getD i 0).toNat % 2 ^ 32 = (l.getD i 0).toNat := Nat.mod_eq_of_lt (by omega)
  omega

theorem nv_step (x y : W32) (hx : nv x < 16777216) (hy : nv y < 256) : nv (x <<< (8 : Nat) ||| y) = nv x * 256 + nv y := by
  unfold nv at *
  rw [shl_or x y (by omega) (by omega), toNat_step x y (by omega) (by omega)]
  omega
theorem msgL_nv (l : List UInt8) (o k : Nat) : nv (byL l (o + 4 * k)) * 16777216 + nv (byL l (o + (4 * k + 1))) * 65536 + nv (byL l (o + (4 * k + 2))) * 256 + nv (byL l (o + (4 * k + 3))) = nv (msgL l o k) := by
  have r0 := byL_range l (o + 4 * k)
  have r1 := byL_range l (o + (4 * k + 1))
  have r2 := byL_range l (o + (4 * k + 2))
  have r3 := byL_range l (o + (4 * k + 3))
  unfold msgL
  have e1 := nv_step (byL l (o + 4 * k)) (byL l (o + (4 * k + 1))) (by omega) (by omega)
  have e2 := nv_step _ (byL l (o + (4 * k + 2))) (by rw [e1]; omega) (by omega)
  have e3 := nv_step _ (byL l (o + (4 * k + 3))) (by rw [e2, e1]; omega) (by omega)
  rw [e3, e2, e1]
  omega

theorem BX.start {w wr : World} {hs f : Nat → W32} {K : Nat} (h : BW w hs K f wr) (e : TypeId) : BX w hs K f wr.heap.size hs ((wr.alloc (.cells (arrV 8 (fun _ => 0)) e)).setRow wr.heap.size (arrV 8 hs)) := by
  have h1 := h.bel.size
  have h2 := h.ks.lt
  have h3 := h.far
  exact ⟨⟨below_row (h.bel.alloc h1 _) h1 _, (h.hh.alloc _).rowOther _ (by omega), (h.res.alloc _).rowOther _ (by omega), (h.ws.alloc _).rowOther _ (by omega), (h.ks.alloc _).rowOther _ (by omega), h3⟩, (arrAt_new wr 8 _ e).row, h2⟩

theorem BX.same {w wr : World} {hs f g g' : Nat → W32} {K X : Nat} (h : BX w hs K f X g wr) (he : ∀ i, i < 8 → g i = g' i) : BX w hs K f X g' wr := ⟨h.b, h.x.same he, h.far⟩
/-- The words behind the n-th moved by one. -/
def shf (g : Nat → W32) (n : Nat) : Nat → W32 := fun j => if n < j then g (j - 1) else g j
theorem shf_step (g : Nat → W32) (m : Nat) : upd (shf g (m + 1)) (m + 1) (shf g (m + 1) m) = shf g m := by
  funext j
  unfold upd shf
  by_cases h1 : j = m + 1
  · subst h1
    rw [if_pos rfl, if_neg (by omega), if_pos (by omega)]
    rfl
  · rw [if_neg h1]
    by_cases h2 : m < j
    · rw [if_pos (by omega), if_pos h2]
    · rw [if_neg (by omega), if_neg h2]
/-- The first n words with those of h added. -/
def plus (x h : Nat → W32) (n : Nat) : Nat → W32 := fun j => if j < n then x j + h j else x j
theorem plus_step (x h : Nat → W32) (n : Nat) : upd (plus x h n) n (plus x h n n + h n) = plus x h (n + 1) := by
  funext j
  unfold upd plus
  by_cases h1 : j = n
  · subst h1
    rw [if_pos rfl, if_neg (by omega), if_pos (by omega)]
  · rw [if_neg h1]
    by_cases h2 : j < n
    · rw [if_pos h2, if_pos (by omega)]
    · rw [if_neg h2, if_neg (by omega)]
theorem fn_rnd (s : St) (k x : W32) : ∀ i, i < 8 → upd (upd (shf s.fn 0) 4 (s.d + tOf s k x)) 0 (tOf s k x + uOf s) i = (rnd s k x).fn i := by
  intro i hi
  match i, hi with
  | 0, _ => rfl
  | 1, _ => rfl
  | 2, _ => rfl
  | 3, _ => rfl
  | 4, _ => rfl
  | 5, _ => rfl
  | 6, _ => rfl
  | 7, _ => rfl
theorem fn_add (x h : St) : arrV 8 (plus x.fn h.fn 8) = arrV 8 (addSt h x).fn := by
  have : ∀ i, i < 8 → plus x.fn h.fn 8 i = (addSt h x).fn i := by
    intro i hi
    unfold plus
    rw [if_pos hi, BitVec.add_comm]
    match i, hi with
    | 0, _ => rfl
    | 1, _ => rfl
    | 2, _ => rfl
    | 3, _ => rfl
    | 4, _ => rfl
    | 5, _ => rfl
    | 6, _ => rfl
    | 7, _ => rfl
  unfold arrV
  congr 1
  apply List.map_congr_left
  intro i hi
  rw [this i (by simpa using hi)]

/-- The bytes of a block, as they lie. -/
def BytesIn (w : World) (bb o : Nat) (l : List UInt8) (off : Nat) : Prop := ∀ i, i < 64 → w.cell? ⟨bb, o + i, none⟩ = some (.int .u8 (nv (byL l (off + i))))
def BlkIs (l : List UInt8) (off : Nat) (h : St) (w : World) (e : Ending) (w' : World) : Prop := e = .returned (blk (msgL l off) h).val ∧ Below w.heap.size w w'

attribute [-go_sem] loadCellsFrom
end Go.Proofs.YtmakghcoehkphaaGreat
end

section
/-
  SHA-256: the document's Sum. Conditions: the text has no more than 2^40 bytes.
-/
namespace Go.Proofs.YtmakghcoehkphaaGreat
open Go.RowKit Go.BigFrame
set_option linter.unusedVariables false
set_option linter.unusedSimpArgs false

theorem op_store_arr {Pr : Program} {o : Oper} {a : Act} {w : World} {K : Act → World → Prop} {Q : Exit → Act → World → Prop} {b n : Nat} {f g : Nat → W32} (h : ArrAt w b n g) (t : TypeId) (x y : Operand)
    (ho : o.op = .store t x y) (hx : a.eval x = .pointer (some ⟨b, 0, none⟩)) (hy : a.eval y = .agg (arrV n f)) (hi : (Pr.info? t).map (·.size) = some n)
    (hK : K (a.put o.dst undef) (w.setRow b (arrV n f))) : o.wp Pr a w K Q := by
  obtain ⟨e, he⟩ := h.heap
  unfold Oper.wp
  have hr : (execOp a.eval o).run Pr w = .ok .skip (w.setRow b (arrV n f)) := by
    simp only [execOp, ho, hx, hy, Instr.storeAt, Instr.sureAddr, Sem.run_bind, Sem.run_pure, Result.andThen, run_storeVar_row w b e t (arrV n g) (arrV n f) he (by rw [arrV_size]; exact hi) (by rw [arrV_size, arrV_size]) (arrV_one n f)]
  rw [hr]
  exact hK

/-- The first so many words' bytes. -/
def outL (f : Nat → W32) : Nat → List UInt8
  | 0 => []
  | n + 1 => outL f n ++ beL (f n).toNat 4
theorem outL_len (f : Nat → W32) (n : Nat) : (outL f n).length = 4 * n := by
  induction n with
  | zero => rfl
  | succ n ih => simp [outL, ih, beL_len]; omega
theorem outL_st (h : St) : outL h.fn 8 = stL h := by
  simp only [outL, stL, List.nil_append, St.fn]
theorem four_bytes (x : W32) (w : World) : (convert 102 9 (.slice (some ⟨w.heap.size, 0, none⟩) 4 4)).run Tryz.prog (w.alloc (.cells #[.int .u8 (IntKind.u8.wrap (nv x / 16777216)), .int .u8 (IntKind.u8.wrap (nv x / 65536)), .int .u8 (IntKind.u8.wrap (nv x / 256)), .int .u8 (IntKind.u8.wrap (nv x))] 5)).drew =
    .ok (.string ⟨(beL x.toNat 4).toArray⟩) (w.alloc (.cells #[.int .u8 (IntKind.u8.wrap (nv x / 16777216)), .int .u8 (IntKind.u8.wrap (nv x / 65536)), .int .u8 (IntKind.u8.wrap (nv x / 256)), .int .u8 (IntKind.u8.wrap (nv x))] 5)).drew := by
  simp only [IntKind.wrap_u8]
  have h : (w.alloc (.cells #[.int .u8 (nv x / 16777216 % 256), .int .u8 (nv x / 65536 % 256), .int .u8 (nv x / 256 % 256), .int .u8 (nv x % 256)] 5)).ownsRow 0 5 1 (.slice (some ⟨w.heap.size, 0, none⟩) 4 4) 4 (bytesOf (beL x.toNat 4)) := by
    refine ⟨rfl, .inr ⟨w.heap.size, 4, _, rfl, Nat.zero_le _, heap_alloc_new w _, Nat.le_refl _, by rw [maxLen_eq]; omega, rfl, ?_⟩⟩
    simp [bytesOf, beL, nv]
  exact convert_bytes h.drew

structure RS (w : World) (bb n : Nat) (P : List UInt8) (f : Nat → W32) (wr : World) : Prop where
  bel : Below w.heap.size w wr
  row : ArrAt wr w.heap.size 8 f
  by_ : ∀ j, j < n → wr.cell? ⟨bb, j, none⟩ = some (.int .u8 (nv (byL P j)))
  far : w.heap.size < bb
theorem RS.next {w wr w' : World} {bb n : Nat} {P : List UInt8} {f : Nat → W32} (h : RS w bb n P f wr) (hb : Below wr.heap.size wr w') : RS w bb n P f w' :=
  ⟨h.bel.trans (hb.mono h.bel.size), h.row.next hb h.row.lt, fun j hj => below_cells hb _ _ (h.by_ j hj), h.far⟩
theorem RS.put {w wr : World} {bb n : Nat} {P : List UInt8} {f : Nat → W32} (h : RS w bb n P f wr) (g : Nat → W32) : RS w bb n P g (wr.setRow w.heap.size (arrV 8 g)) := by
  refine ⟨below_row h.bel (Nat.le_refl _) _, h.row.row, fun j hj => ?_, h.far⟩
  have hj' := h.by_ j hj
  have hf := h.far
  simp only [World.cell?] at hj' ⊢
  rw [setRow_other wr w.heap.size bb _ (by omega)]
  exact hj'

def SumIs (s : ByteArray) (w : World) (e : Ending) (w' : World) : Prop := e = .returned (.string ⟨(sumL s.data.toList).toArray⟩) ∧ Below w.heap.size w w'

attribute [-go_sem] loadCellsFrom
end Go.Proofs.YtmakghcoehkphaaGreat
end

section
/-
  SHA-256: sha.Sum. Conditions: the text has no more than 2^40 bytes.
-/
namespace Go.Proofs.YtmakghcoehkphaaGreat
open Go.RowKit Go.BigFrame
set_option linter.unusedVariables false
set_option linter.unusedSimpArgs false

/-- The words of the digest so far, and the keys, in rows of the call's own. -/
structure SS (w : World) (A B : Nat) (f : Nat → W32) (wr : World) : Prop where
  bel : Below w.heap.size w wr
  h : ArrAt wr A 8 f
  k : ArrAt wr B 64 kF
  lo : w.heap.size ≤ A
  far : A < B
theorem SS.next {w wr w' : World} {A B : Nat} {f : Nat → W32} (h : SS w A B f wr) (hb : Below wr.heap.size wr w') : SS w A B f w' :=
  ⟨h.bel.trans (hb.mono h.bel.size), h.h.next hb h.h.lt, h.k.next hb h.k.lt, h.lo, h.far⟩
theorem SS.start {w wr : World} (hb : Below w.heap.size w wr) (f : Nat → W32) (e1 e2 : TypeId) :
    SS w wr.heap.size (wr.heap.size + 1) f ((((wr.alloc (.cells (arrV 8 (fun _ => 0)) e1)).alloc (.cells (arrV 64 (fun _ => 0)) e2)).setRow wr.heap.size (arrV 8 f)).setRow (wr.heap.size + 1) (arrV 64 kF)) := by
  have s1 : (wr.alloc (.cells (arrV 8 (fun _ => 0)) e1)).heap.size = wr.heap.size + 1 := by simp
  have hsz := hb.size
  have a1 := (arrAt_new wr 8 (fun _ => 0) e1).alloc (.cells (arrV 64 (fun _ => 0)) e2)
  have a2 := arrAt_new (wr.alloc (.cells (arrV 8 (fun _ => 0)) e1)) 64 (fun _ => 0) e2
  rw [s1] at a2
  exact ⟨below_row (below_row ((hb.alloc hsz _).alloc (by rw [s1]; omega) _) hsz _) (by omega) _, (a1.row).rowOther _ (by omega), (a2.rowOther _ (by omega)).row, hsz, Nat.lt_succ_self _⟩

theorem isEmpty_size (s : ByteArray) : s.toList.isEmpty = decide (s.size = 0) := by
  rw [ByteArray.toList_eq]
  have : s.size = s.data.toList.length := by simp
  rw [this]
  cases s.data.toList <;> simp
/-- What holds amid 'w, x := schedule(s), h'. -/
structure RI (w : World) (A B : Nat) (f Wf : Nat → W32) (L : Nat → Prop) (x21 x22 x5 x6 : Value) (wr : World) : Prop where
  ss : SS w A B f wr
  l1 : L 1 → x21 = .agg (arrV 64 Wf)
  l2 : L 2 → x22 = .agg (arrV 8 f)
  l3 : L 3 → ∃ p, x5 = .pointer (some ⟨p, 0, none⟩) ∧ B < p ∧ ∃ g, ArrAt wr p 64 g ∧ (L 5 → g = Wf)
  l4 : L 4 → ∃ p, x6 = .pointer (some ⟨p, 0, none⟩) ∧ B < p ∧ ∃ g, ArrAt wr p 8 g ∧ (L 6 → g = f)
  ne : L 3 → L 4 → x5 ≠ x6
  o5 : L 5 → L 3
  o6 : L 6 → L 4
section
variable {w : World} {A B : Nat} {f Wf : Nat → W32} {L : Nat → Prop} {x21 x22 x5 x6 : Value} {wr : World}
theorem RI.next {w' : World} (h : RI w A B f Wf L x21 x22 x5 x6 wr) (hb : Below wr.heap.size wr w') : RI w A B f Wf L x21 x22 x5 x6 w' :=
  ⟨h.ss.next hb, h.l1, h.l2, fun hl => (h.l3 hl).imp fun p ⟨a, b, g, c, d⟩ => ⟨a, b, g, c.next hb c.lt, d⟩, fun hl => (h.l4 hl).imp fun p ⟨a, b, g, c, d⟩ => ⟨a, b, g, c.next hb c.lt, d⟩, h.ne, h.o5, h.o6⟩
theorem or_ne {i j : Nat} (h : j = i ∨ L j) (hne : j ≠ i) : L j := h.resolve_left hne
theorem RI.t0 (h : RI w A B f Wf L x21 x22 x5 x6 wr) : RI w A B f Wf (fun j => j = 0 ∨ L j) x21 x22 x5 x6 wr :=
  ⟨h.ss, fun e => h.l1 (or_ne e (by decide)), fun e => h.l2 (or_ne e (by decide)), fun e => (h.l3 (or_ne e (by decide))).imp fun p ⟨a, b, g, c, d⟩ => ⟨a, b, g, c, fun e => d (or_ne e (by decide))⟩,
    fun e => (h.l4 (or_ne e (by decide))).imp fun p ⟨a, b, g, c, d⟩ => ⟨a, b, g, c, fun e => d (or_ne e (by decide))⟩, fun e e' => h.ne (or_ne e (by decide)) (or_ne e' (by decide)), fun e => .inr (h.o5 (or_ne e (by decide))), fun e => .inr (h.o6 (or_ne e (by decide)))⟩
theorem RI.t1 (h : RI w A B f Wf L x21 x22 x5 x6 wr) : RI w A B f Wf (fun j => j = 1 ∨ L j) (.agg (arrV 64 Wf)) x22 x5 x6 wr :=
  ⟨h.ss, fun e => rfl, fun e => h.l2 (or_ne e (by decide)), fun e => (h.l3 (or_ne e (by decide))).imp fun p ⟨a, b, g, c, d⟩ => ⟨a, b, g, c, fun e => d (or_ne e (by decide))⟩,
    fun e => (h.l4 (or_ne e (by decide))).imp fun p ⟨a, b, g, c, d⟩ => ⟨a, b, g, c, fun e => d (or_ne e (by decide))⟩, fun e e' => h.ne (or_ne e (by decide)) (or_ne e' (by decide)), fun e => .inr (h.o5 (or_ne e (by decide))), fun e => .inr (h.o6 (or_ne e (by decide)))⟩
theorem RI.t2 (h : RI w A B f Wf L x21 x22 x5 x6 wr) : RI w A B f Wf (fun j => j = 2 ∨ L j) x21 (.agg (arrV 8 f)) x5 x6 wr :=
  ⟨h.ss, fun e => h.l1 (or_ne e (by decide)), fun e => rfl, fun e => (h.l3 (or_ne e (by decide))).imp fun p ⟨a, b, g, c, d⟩ => ⟨a, b, g, c, fun e => d (or_ne e (by decide))⟩,
    fun e => (h.l4 (or_ne e (by decide))).imp fun p ⟨a, b, g, c, d⟩ => ⟨a, b, g, c, fun e => d (or_ne e (by decide))⟩, fun e e' => h.ne (or_ne e (by decide)) (or_ne e' (by decide)), fun e => .inr (h.o5 (or_ne e (by decide))), fun e => .inr (h.o6 (or_ne e (by decide)))⟩
theorem RI.t3 (h : RI w A B f Wf L x21 x22 x5 x6 wr) (hn : ¬ L 3) (e0 : TypeId) : RI w A B f Wf (fun j => j = 3 ∨ L j) x21 x22 (.pointer (some ⟨wr.heap.size, 0, none⟩)) x6 (wr.alloc (.cells (Array.replicate 64 (.int .u32 0)) e0)) := by
  have hb : Below wr.heap.size wr (wr.alloc (.cells (Array.replicate 64 (.int .u32 0)) e0)) := (Below.refl _ _).alloc (Nat.le_refl _) _
  have h' := h.next hb
  exact ⟨h'.ss, fun e => h.l1 (or_ne e (by decide)), fun e => h.l2 (or_ne e (by decide)), fun _ => ⟨_, rfl, h.ss.k.lt, _, arr_rep (heap_alloc_new wr _), fun e => absurd (h.o5 (or_ne e (by decide))) hn⟩,
    fun e => (h'.l4 (or_ne e (by decide))).imp fun p ⟨a, b, g, c, d⟩ => ⟨a, b, g, c, fun e => d (or_ne e (by decide))⟩,
    fun _ e' => by
      obtain ⟨p, rfl, -, g, c, -⟩ := h.l4 (or_ne e' (by decide))
      intro hc
      injection hc with hc
      injection hc with hc
      injection hc with hc
      have := c.lt
      omega, fun _ => .inl rfl, fun e => .inr (h.o6 (or_ne e (by decide)))⟩
theorem RI.t4 (h : RI w A B f Wf L x21 x22 x5 x6 wr) (hn : ¬ L 4) (e0 : TypeId) : RI w A B f Wf (fun j => j = 4 ∨ L j) x21 x22 x5 (.pointer (some ⟨wr.heap.size, 0, none⟩)) (wr.alloc (.cells (Array.replicate 8 (.int .u32 0)) e0)) := by
  have hb : Below wr.heap.size wr (wr.alloc (.cells (Array.replicate 8 (.int .u32 0)) e0)) := (Below.refl _ _).alloc (Nat.le_refl _) _
  have h' := h.next hb
  exact ⟨h'.ss, fun e => h.l1 (or_ne e (by decide)), fun e => h.l2 (or_ne e (by decide)), fun e => (h'.l3 (or_ne e (by decide))).imp fun p ⟨a, b, g, c, d⟩ => ⟨a, b, g, c, fun e => d (or_ne e (by decide))⟩,
    fun _ => ⟨_, rfl, h.ss.k.lt, _, arr_rep (heap_alloc_new wr _), fun e => absurd (h.o6 (or_ne e (by decide))) hn⟩,
    fun e _ => by
      obtain ⟨p, rfl, -, g, c, -⟩ := h.l3 (or_ne e (by decide))
      intro hc
      injection hc with hc
      injection hc with hc
      injection hc with hc
      have := c.lt
      omega, fun e => .inr (h.o5 (or_ne e (by decide))), fun _ => .inl rfl⟩
theorem SS.row {p : Nat} (h : SS w A B f wr) (hp : B < p) (x : Array Value) : SS w A B f (wr.setRow p x) := by
  have h1 := h.lo
  have h2 := h.far
  exact ⟨below_row h.bel (by omega) _, h.h.rowOther _ (by omega), h.k.rowOther _ (by omega), h.lo, h.far⟩
theorem RI.t5 {p : Nat} (h : RI w A B f Wf L x21 x22 (.pointer (some ⟨p, 0, none⟩)) x6 wr) (hp : B < p) (h3 : L 3) {g : Nat → W32} (hg : ArrAt wr p 64 g) : RI w A B f Wf (fun j => j = 5 ∨ L j) x21 x22 (.pointer (some ⟨p, 0, none⟩)) x6 (wr.setRow p (arrV 64 Wf)) :=
  ⟨h.ss.row hp _, fun e => h.l1 (or_ne e (by decide)), fun e => h.l2 (or_ne e (by decide)), fun e => ⟨p, rfl, hp, Wf, hg.row, fun _ => rfl⟩,
    fun e => (h.l4 (or_ne e (by decide))).imp fun q ⟨a, b, g, c, d⟩ => ⟨a, b, g, c.rowOther _ (fun hpq => h.ne h3 (or_ne e (by decide)) (by rw [a, hpq])), fun e => d (or_ne e (by decide))⟩, fun e e' => h.ne h3 (or_ne e' (by decide)), fun e => .inr h3, fun e => .inr (h.o6 (or_ne e (by decide)))⟩
theorem RI.t6 {p : Nat} (h : RI w A B f Wf L x21 x22 x5 (.pointer (some ⟨p, 0, none⟩)) wr) (hp : B < p) (h4 : L 4) {g : Nat → W32} (hg : ArrAt wr p 8 g) : RI w A B f Wf (fun j => j = 6 ∨ L j) x21 x22 x5 (.pointer (some ⟨p, 0, none⟩)) (wr.setRow p (arrV 8 f)) :=
  ⟨h.ss.row hp _, fun e => h.l1 (or_ne e (by decide)), fun e => h.l2 (or_ne e (by decide)),
    fun e => (h.l3 (or_ne e (by decide))).imp fun q ⟨a, b, g, c, d⟩ => ⟨a, b, g, c.rowOther _ (fun hpq => h.ne (or_ne e (by decide)) h4 (by rw [a, hpq])), fun e => d (or_ne e (by decide))⟩,
    fun e => ⟨p, rfl, hp, f, hg.row, fun _ => rfl⟩, fun e e' => h.ne (or_ne e (by decide)) h4, fun e => .inr (h.o5 (or_ne e (by decide))), fun e => .inr h4⟩
variable {Pr : Program} {K : Act → World → Prop} {Q : Exit → Act → World → Prop} {o : Oper} {a : Act}
theorem RI.s5 (h : RI w A B f Wf L x21 x22 x5 x6 wr) (h3 : L 3) (h1 : L 1) (t : TypeId) (ho : o.op = .store t (.tmp 5) (.tmp 21)) (hx : a.eval (.tmp 5) = x5) (hy : a.eval (.tmp 21) = x21) (hi : (Pr.info? t).map (·.size) = some 64)
    (hK : ∀ w', RI w A B f Wf (fun j => j = 5 ∨ L j) x21 x22 x5 x6 w' → K (a.put o.dst undef) w') : o.wp Pr a wr K Q := by
  have e1 := h.l1 h1
  obtain ⟨p, e5, hp, g, hg, -⟩ := h.l3 h3
  refine op_store_arr (f := Wf) hg t (.tmp 5) (.tmp 21) ho (hx.trans e5) (hy.trans e1) hi (hK _ ?_)
  subst e5
  exact h.t5 hp h3 hg
theorem RI.s6 (h : RI w A B f Wf L x21 x22 x5 x6 wr) (h4 : L 4) (h2 : L 2) (t : TypeId) (ho : o.op = .store t (.tmp 6) (.tmp 22)) (hx : a.eval (.tmp 6) = x6) (hy : a.eval (.tmp 22) = x22) (hi : (Pr.info? t).map (·.size) = some 8)
    (hK : ∀ w', RI w A B f Wf (fun j => j = 6 ∨ L j) x21 x22 x5 x6 w' → K (a.put o.dst undef) w') : o.wp Pr a wr K Q := by
  have e1 := h.l2 h2
  obtain ⟨p, e6, hp, g, hg, -⟩ := h.l4 h4
  refine op_store_arr (f := f) hg t (.tmp 6) (.tmp 22) ho (hx.trans e6) (hy.trans e1) hi (hK _ ?_)
  subst e6
  exact h.t6 hp h4 hg
end

structure X2 (w : World) (A B : Nat) (f : Nat → W32) (p5 p6 : Nat) (Wf g : Nat → W32) (wr : World) : Prop where
  ss : SS w A B f wr
  a5 : ArrAt wr p5 64 Wf
  a6 : ArrAt wr p6 8 g
  b5 : B < p5
  b6 : B < p6
  ne : p5 ≠ p6
section
variable {w : World} {A B : Nat} {f Wf g : Nat → W32} {p5 p6 : Nat} {wr : World}
theorem X2.next {w' : World} (h : X2 w A B f p5 p6 Wf g wr) (hb : Below wr.heap.size wr w') : X2 w A B f p5 p6 Wf g w' :=
  ⟨h.ss.next hb, h.a5.next hb h.a5.lt, h.a6.next hb h.a6.lt, h.b5, h.b6, h.ne⟩
theorem X2.row (h : X2 w A B f p5 p6 Wf g wr) (g' : Nat → W32) : X2 w A B f p5 p6 Wf g' (wr.setRow p6 (arrV 8 g')) :=
  ⟨h.ss.row h.b6 _, h.a5.rowOther _ (Ne.symm h.ne), h.a6.row, h.b5, h.b6, h.ne⟩
theorem X2.put (h : X2 w A B f p5 p6 Wf g wr) (i : Nat) (x : W32) : X2 w A B (upd f i x) p5 p6 Wf g (wr.setCell ⟨A, i, none⟩ (.int .u32 (nv x))) := by
  have h1 := h.ss.lo
  have h2 := h.ss.far
  have h5 := h.b5
  have h6 := h.b6
  exact ⟨⟨h.ss.bel.setCell (by simpa using h1) _, h.ss.h.set x, h.ss.k.other _ _ (by simp; omega), h1, h2⟩, h.a5.other _ _ (by simp; omega), h.a6.other _ _ (by simp; omega), h5, h6, h.ne⟩
theorem X2.same {f' : Nat → W32} (h : X2 w A B f p5 p6 Wf g wr) (he : ∀ i, i < 8 → f i = f' i) : X2 w A B f' p5 p6 Wf g wr :=
  ⟨⟨h.ss.bel, h.ss.h.same he, h.ss.k, h.ss.lo, h.ss.far⟩, h.a5, h.a6, h.b5, h.b6, h.ne⟩
end
theorem fn_add2 (h x : St) : ∀ i, i < 8 → plus h.fn x.fn 8 i = (addSt h x).fn i := by
  intro i hi
  unfold plus
  rw [if_pos hi]
  match i, hi with
  | 0, _ => rfl
  | 1, _ => rfl
  | 2, _ => rfl
  | 3, _ => rfl
  | 4, _ => rfl
  | 5, _ => rfl
  | 6, _ => rfl
  | 7, _ => rfl
theorem ext_next (S : ByteArray) (a : Nat) : (S.extract a S.size).extract 64 (S.extract a S.size).size = S.extract (a + 64) S.size := by
  apply ByteArray.ext
  simp only [ByteArray.data_extract, ByteArray.size_extract, Array.extract_extract]
  congr 1
  omega

attribute [-go_sem] loadCellsFrom
end Go.Proofs.YtmakghcoehkphaaGreat
end

section
/-
  SHA-256: the contracts of Sum and Twice, the program's and the document's. Conditions: no more than 2^40 bytes.
-/
namespace Go.Proofs.YtmakghcoehkphaaGreat
open Go.RowKit Go.BigFrame
set_option linter.unusedVariables false
set_option linter.unusedSimpArgs false

/-- The digest of a text, as a text. -/
def dig (s : ByteArray) : ByteArray := ⟨(sumL s.data.toList).toArray⟩
theorem dig_size (s : ByteArray) : (dig s).size = 32 := by unfold dig; rw [mk_size, sumL_len]
end Go.Proofs.YtmakghcoehkphaaGreat
end
