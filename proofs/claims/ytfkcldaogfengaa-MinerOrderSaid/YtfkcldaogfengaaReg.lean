/-
  A region that draws its order: operations that make memory of their own, in any order, and behind them a tail of operations of which each waits for all ahead of it. Conditions: those named in wp_region_made.
-/
import Derived.Test.YtfkcldaogfengaaInv
import Derived.Test.YtfkcldaogfengaaRep
namespace Go.Proofs.Ytfkcldaogfengaa
open Go.RowKit Go.BigFrame
set_option linter.unusedVariables false

theorem opv_run {P : Program} {o : Oper} {a : Act} {w w' : World} {v : Value} {K : Act → World → Prop} {Q : Exit → Act → World → Prop} (hrun : (execOp a.eval o).run P w = .ok (.value v) w') (hK : K (a.put o.dst v) w') : o.wp P a w K Q := by
  unfold Oper.wp
  rw [hrun]
  exact hK
theorem op_skip {P : Program} {o : Oper} {a : Act} {w w' : World} {K : Act → World → Prop} {Q : Exit → Act → World → Prop} (hrun : (execOp a.eval o).run P w = .ok .skip w') (hK : K (a.put o.dst undef) w') : o.wp P a w K Q := by
  unfold Oper.wp
  rw [hrun]
  exact hK
theorem op_call {P : Program} {o : Oper} {a : Act} {w : World} {f : FuncId} {args : Array Value} {R : Ending → World → Prop} {K : Act → World → Prop} {Q : Exit → Act → World → Prop} (hrun : (execOp a.eval o).run P w = .ok (.enter f args) w)
    (hc : Calls P f args w R) (hK : ∀ e w', R e w' → ∃ v, e = .returned v ∧ K (a.put o.dst v) w') : o.wp P a w K Q := by
  unfold Oper.wp
  rw [hrun]
  refine hc.mono fun e w' hR => ?_
  obtain ⟨v, rfl, hk⟩ := hK e w' hR
  exact hk

/-- The frame behind the operations' results. -/
def putAll (a : Act) : List Oper → List Value → Act
  | o :: l, x :: xs => putAll (a.put o.dst x) l xs
  | _, _ => a
def depsOf (o : Oper) : List Nat := (o.after.toList.filter (Region.binds .any)).map (·.on)
def deps (l : List Oper) (i : Nat) : List Nat := match l[i]? with | some o => depsOf o | none => []
def noneOf (d : Option Tmp) (l : List Oper) : Bool := match d with | none => true | some d => l.all fun o => match o.dst with | none => true | some e => !(d == e)
def dstB : List Oper → Bool
  | [] => true
  | o :: l => noneOf o.dst l && dstB l

theorem put_comm (a : Act) {d e : Option Tmp} (h : ∀ x y, d = some x → e = some y → x ≠ y) (u v : Value) : (a.put d u).put e v = (a.put e v).put d u := by
  cases d with
  | none => rfl
  | some d =>
    cases e with
    | none => rfl
    | some e =>
      have hne := h d e rfl rfl
      simp only [Act.put]
      congr 1
      exact Array.setIfInBounds_comm _ _ hne
theorem put_own (a : Act) (d : Option Tmp) : a.put d (match d with | some d => a.tmps.getD d undef | none => undef) = a := by
  cases d with
  | none => rfl
  | some d =>
    simp only [Act.put]
    have h : a.tmps.setIfInBounds d (a.tmps.getD d undef) = a.tmps := by
      apply Array.ext
      · simp
      · intro i h1 h2
        rw [Array.getElem_setIfInBounds h2]
        split
        · rename_i e
          subst e
          simp [Array.getD, h2]
        · rfl
    rw [h]
theorem putAll_put_none : ∀ (l : List Oper) (xs : List Value) (a : Act) (d : Option Tmp) (v : Value), noneOf d l = true → (putAll a l xs).put d v = putAll (a.put d v) l xs
  | [], xs, a, d, v, h => by simp [putAll]
  | o :: l, [], a, d, v, h => by simp [putAll]
  | o :: l, x :: xs, a, d, v, h => by
    have h1 : noneOf d l = true := by
      cases d with
      | none => rfl
      | some d => simp only [noneOf, List.all_cons, Bool.and_eq_true] at h ⊢; exact h.2
    rw [putAll, putAll, putAll_put_none l xs _ d v h1, put_comm]
    intro p q hp hq e
    subst e
    rw [hq] at h
    simp [noneOf, hp] at h
theorem putAll_put : ∀ (l : List Oper) (xs : List Value) (a : Act) (i : Nat) (o : Oper) (v : Value), dstB l = true → l[i]? = some o → i < xs.length → (putAll a l xs).put o.dst v = putAll a l (xs.set i v)
  | [], xs, a, i, o, v, hd, ho, hi => by simp at ho
  | p :: l, [], a, i, o, v, hd, ho, hi => by simp at hi
  | p :: l, x :: xs, a, 0, o, v, hd, ho, hi => by
    obtain rfl : p = o := by simpa using ho
    simp only [dstB, Bool.and_eq_true] at hd
    rw [putAll, List.set_cons_zero, putAll, putAll_put_none l xs _ _ v hd.1, put_put]
  | p :: l, x :: xs, a, i + 1, o, v, hd, ho, hi => by
    simp only [dstB, Bool.and_eq_true] at hd
    rw [putAll, List.set_cons_succ, putAll, putAll_put l xs _ i o v hd.2 (by simpa using ho) (by simpa using hi)]
def ownVals (a : Act) (l : List Oper) : List Value := l.map fun o => match o.dst with | some d => a.tmps.getD d undef | none => undef
theorem putAll_own : ∀ (l : List Oper) (a : Act) (n : Nat), putAll a l ((ownVals a l).take n) = a
  | [], a, n => by simp [putAll]
  | o :: l, a, 0 => by simp [putAll]
  | o :: l, a, n + 1 => by
    have h := putAll_own l a n
    unfold ownVals at h ⊢
    rw [List.map_cons, List.take_succ_cons, putAll, put_own]
    exact h

/-- What holds of an operation's value, by the values on which it waits, the blocks from lo to hi, and the world; it stays while these blocks do. -/
structure Fact where
  p : Value → List Value → Nat → Nat → World → Prop
  mono : ∀ {v : Value} {d : List Value} {lo hi : Nat} {w w' : World}, (∀ b, b < hi → w'.heap[b]? = w.heap[b]?) → p v d lo hi w → p v d lo hi w'
def Fact.val (f : List Value → Value) : Fact := ⟨fun v d _ _ _ => v = f d, fun _ h => h⟩
def Fact.is (q : Value → List Value → Prop) : Fact := ⟨fun v d _ _ _ => q v d, fun _ h => h⟩
def Fact.box (f : List Value → Obj) : Fact := ⟨fun v d lo hi w => ∃ b, lo ≤ b ∧ b < hi ∧ v = .pointer (some ⟨b, 0, none⟩) ∧ w.heap[b]? = some (f d), fun hk ⟨b, h1, h2, h3, h4⟩ => ⟨b, h1, h2, h3, (hk b h2).trans h4⟩⟩
def Fact.row (n : Nat) (f : List Value → Obj) : Fact := ⟨fun v d lo hi w => ∃ b, lo ≤ b ∧ b < hi ∧ v = .slice (some ⟨b, 0, none⟩) n n ∧ w.heap[b]? = some (f d), fun hk ⟨b, h1, h2, h3, h4⟩ => ⟨b, h1, h2, h3, (hk b h2).trans h4⟩⟩
def Fact.own (base e size n : Nat) (xs : List Value → List Value) : Fact := ⟨fun v d lo hi w => (∀ b, v.ownBlock = some b → lo ≤ b ∧ b < hi) ∧ w.ownsRow base e size v n (xs d), fun hk ⟨h1, h2⟩ => ⟨h1, ownsRow_of_block h2 fun b hb => hk b (h1 b hb).2⟩⟩
def Fact.any : Fact := ⟨fun _ _ _ _ _ => True, fun _ _ => trivial⟩

/-- Where just the operations of L have been run, all of the first n. -/
structure Made (R : Nat → Fact) (l : List Oper) (n : Nat) (w0 : World) (L : Nat → Prop) (xs : List Value) (lo hi : Nat → Nat) (w : World) : Prop where
  len : xs.length = n
  closed : ∀ j, L j → ∀ d, (deps l j).contains d = true → L d
  lt : ∀ j, L j → j < n
  bel : Below w0.heap.size w0 w
  rel : ∀ j, L j → (R j).p (xs.getD j undef) ((deps l j).map fun d => xs.getD d undef) (lo j) (hi j) w
  lohi : ∀ j, L j → w0.heap.size ≤ lo j ∧ lo j ≤ hi j ∧ hi j ≤ w.heap.size
  apart : ∀ i j, L i → L j → i ≠ j → hi i ≤ lo j ∨ hi j ≤ lo i

section
variable {P : Program} {R : Nat → Fact} {l : List Oper} {n : Nat} {w0 w : World} {L : Nat → Prop} {xs : List Value} {lo hi : Nat → Nat}

theorem deps_binds {i d : Nat} {o : Oper} (ho : l[i]? = some o) (h : (deps l i).contains d = true) : ∃ e ∈ o.after, Region.binds .any e = true ∧ e.on = d := by
  unfold deps at h
  rw [ho] at h
  simp only [depsOf, List.contains_iff_mem, List.mem_map, List.mem_filter] at h
  obtain ⟨e, ⟨h1, h2⟩, h3⟩ := h
  exact ⟨e, by simpa using h1, h2, h3⟩

theorem Made.step (h : Made R l n w0 L xs lo hi w) {i : Nat} (hin : i < n) (hni : ¬ L i) (hpre : ∀ d, (deps l i).contains d = true → L d) {v : Value} {w' : World}
    (hbel : Below w.heap.size w w') (hr : (R i).p v ((deps l i).map fun d => xs.getD d undef) w.heap.size w'.heap.size w') :
    Made R l n w0 (fun j => j = i ∨ L j) (xs.set i v) (fun j => if j = i then w.heap.size else lo j) (fun j => if j = i then w'.heap.size else hi j) w' := by
  have hget : ∀ j, L j → (xs.set i v).getD j undef = xs.getD j undef := by
    intro j hj
    have hne : i ≠ j := fun e => hni (e ▸ hj)
    simp [List.getD, List.getElem?_set_ne hne]
  have hself : (xs.set i v).getD i undef = v := by
    have : i < xs.length := by rw [h.len]; exact hin
    simp [List.getD, this]
  have hmap : ∀ j, (j = i ∨ L j) → ((deps l j).map fun d => (xs.set i v).getD d undef) = (deps l j).map fun d => xs.getD d undef := by
    intro j hj
    refine List.map_congr_left fun d hd => hget d ?_
    have hc : (deps l j).contains d = true := by simpa using hd
    rcases hj with rfl | hj
    · exact hpre d hc
    · exact h.closed j hj d hc
  have hsz := hbel.size
  refine ⟨by rw [List.length_set]; exact h.len, ?_, ?_, h.bel.trans (hbel.mono h.bel.size), ?_, ?_, ?_⟩
  · rintro j (rfl | hj) d hd
    · exact .inr (hpre d hd)
    · exact .inr (h.closed j hj d hd)
  · rintro j (rfl | hj)
    · exact hin
    · exact h.lt j hj
  · rintro j (rfl | hj)
    · rw [hself, hmap j (.inl rfl), if_pos rfl, if_pos rfl]
      exact hr
    · have hne : j ≠ i := fun e => hni (e ▸ hj)
      rw [hget j hj, hmap j (.inr hj), if_neg hne, if_neg hne]
      have h3 := h.lohi j hj
      exact (R j).mono (fun b h2 => hbel.block b (by omega)) (h.rel j hj)
  · rintro j (rfl | hj)
    · rw [if_pos rfl, if_pos rfl]
      exact ⟨h.bel.size, hsz, Nat.le_refl _⟩
    · have hne : j ≠ i := fun e => hni (e ▸ hj)
      rw [if_neg hne, if_neg hne]
      have := h.lohi j hj
      omega
  · rintro p q (rfl | hp) (rfl | hq) hpq
    · exact absurd rfl hpq
    · have hne : q ≠ p := fun e => hpq e.symm
      rw [if_pos rfl, if_pos rfl, if_neg hne, if_neg hne]
      exact .inr (h.lohi q hq).2.2
    · rw [if_pos rfl, if_pos rfl, if_neg hpq, if_neg hpq]
      exact .inl (h.lohi p hp).2.2
    · have h1 : p ≠ i := fun e => hni (e ▸ hp)
      have h2 : q ≠ i := fun e => hni (e ▸ hq)
      rw [if_neg h1, if_neg h1, if_neg h2, if_neg h2]
      exact h.apart p q hp hq hpq

theorem Made.start {a0 : Act} (hl : n ≤ l.length) (w : World) : Made R l n w (fun _ => False) ((ownVals a0 l).take n) (fun _ => 0) (fun _ => 0) w.drew :=
  ⟨by simp [ownVals]; omega, fun _ h => h.elim, fun _ h => h.elim, ⟨rfl, rfl, rfl, Nat.le_refl _, fun _ _ => rfl⟩, fun _ h => h.elim, fun _ h => h.elim, fun _ _ h => h.elim⟩

/-- What is asked of one operation. -/
def StepOk (P : Program) (R : Nat → Fact) (a0 : Act) (l : List Oper) (n : Nat) (w0 : World) (i : Nat) (o : Oper) : Prop :=
  ∀ (L : Nat → Prop) (xs : List Value) (lo hi : Nat → Nat) (w : World), Made R l n w0 L xs lo hi w → ¬ L i → (∀ d, (deps l i).contains d = true → L d) →
    o.wp P (putAll a0 l xs) w (fun a' w' => ∃ v, a' = (putAll a0 l xs).put o.dst v ∧ Below w.heap.size w w' ∧ (R i).p v ((deps l i).map fun d => xs.getD d undef) w.heap.size w'.heap.size w') (fun _ _ _ => False)

/-- Do all operations stand ahead of one? -/
def aheadB (l : List Oper) (n : Nat) : Bool :=
  let rec go : Nat → List Bool → List Bool
    | 0, s => s
    | f + 1, s => go f ((List.range n).map fun j => s.getD j false || (List.range n).any fun i => s.getD i false && (deps l i).contains j)
  (go n ((List.range n).map fun j => (deps l n).contains j)).all id
theorem ahead_go {n : Nat} (hc : ∀ j, L j → ∀ d, (deps l j).contains d = true → L d) : ∀ (f : Nat) (s : List Bool), (∀ j, s.getD j false = true → L j) → ∀ j, (aheadB.go l n f s).getD j false = true → L j
  | 0, s, h, j, hj => h j hj
  | f + 1, s, h, j, hj => by
    rw [aheadB.go] at hj
    refine ahead_go hc f _ (fun q hq => ?_) j hj
    rw [List.getD_eq_getElem?_getD, List.getElem?_map] at hq
    cases hr : (List.range n)[q]? with
    | none => rw [hr] at hq; simp at hq
    | some r =>
      rw [hr] at hq
      obtain rfl : r = q := by
        have := List.getElem?_eq_some_iff.1 hr
        obtain ⟨h1, h2⟩ := this
        rw [List.getElem_range] at h2
        exact h2.symm
      simp only [Option.map_some, Option.getD_some, Bool.or_eq_true, List.any_eq_true, Bool.and_eq_true] at hq
      rcases hq with hq | ⟨i, -, h1, h2⟩
      · exact h r hq
      · exact hc i (h i h1) r h2
theorem ahead_all (h : aheadB l n = true) (hc : ∀ j, L j → ∀ d, (deps l j).contains d = true → L d) (hd : ∀ d, (deps l n).contains d = true → L d) : ∀ j, j < n → L j := by
  have hlen : ∀ (f : Nat) (s : List Bool), s.length = n → (aheadB.go l n f s).length = n := by
    intro f
    induction f with
    | zero => intro s hs; exact hs
    | succ f ih => intro s hs; rw [aheadB.go]; exact ih _ (by simp)
  intro j hj
  refine ahead_go (n := n) hc n ((List.range n).map fun j => (deps l n).contains j) (fun q hq => ?_) j ?_
  · rw [List.getD_eq_getElem?_getD, List.getElem?_map] at hq
    cases hr : (List.range n)[q]? with
    | none => rw [hr] at hq; simp at hq
    | some r =>
      rw [hr] at hq
      obtain ⟨h1, h2⟩ := List.getElem?_eq_some_iff.1 hr
      rw [List.getElem_range] at h2
      subst h2
      exact hd _ (by simpa using hq)
  · unfold aheadB at h
    have h1 := List.all_eq_true.1 h
    have h2 : j < (aheadB.go l n n ((List.range n).map fun j => (deps l n).contains j)).length := by rw [hlen _ _ (by simp)]; exact hj
    rw [List.getD_eq_getElem?_getD, List.getElem?_eq_getElem h2]
    simpa using h1 _ (List.getElem_mem h2)


theorem wpOp_mono {ops : Array Oper} {Q : Exit → Act → World → Prop} {i : Nat} {K K' : Act → World → Prop} {a : Act} (h : wpOp P ops Q i K a w) (hk : ∀ a' w', K a' w' → K' a' w') : wpOp P ops Q i K' a w := by
  unfold wpOp at h ⊢
  cases ho : ops[i]? with
  | none => rw [ho] at h; exact hk _ _ h
  | some o =>
    rw [ho] at h
    dsimp only at h ⊢
    split
    · rename_i hw
      rw [if_pos hw] at h
      rcases h with h | h
      · exact .inl (wp_weaken hk (fun _ _ _ h => h) (fun h => h) h)
      · exact .inr h
    · rename_i hw
      rw [if_neg hw] at h
      exact hk _ _ h

/-- A region by what holds behind each set of its operations; each operation as the region itself asks it. -/
theorem wp_region_inv2 (I : (Nat → Prop) → Act → World → Prop) {id : Nat} {Q : Exit → Act → World → Prop} {a : Act} (hm : P.follows .mixedOrders = true) (hb : backB .any l.toArray = true)
    (h0 : I (fun _ => False) a w.drew)
    (hstep : ∀ (L : Nat → Prop) (i : Nat) (a : Act) (w : World), i < l.length → ¬ L i → (∀ d, (deps l i).contains d = true → L d) → I L a w → wpOp P l.toArray Q i (fun a' w' => I (fun j => j = i ∨ L j) a' w') a w)
    (hend : ∀ (L : Nat → Prop) (a : Act) (w : World), (∀ j, j < l.length → L j) → I L a w → Q .normal a w) :
    (Code.region id l.toArray true).wp P Q a w := by
  have main : ∀ (fuel : Nat) (listed : Array Bool) (a : Act) (w : World), listed.size = l.toArray.size → listed.toList.count false ≤ fuel → I (fun j => listed.getD j false = true) a w →
      wpAny P .any l.toArray Q fuel listed a w := by
    intro fuel
    induction fuel with
    | zero =>
      intro listed a w hsz hc hI
      have hall : ∀ j, j < listed.size → listed.getD j false = true := fun j hj => by
        cases hx : listed.getD j false with
        | true => rfl
        | false =>
          exfalso
          have h1 := count_set_true hj (by rw [getD_flip hj true false]; exact hx)
          omega
      refine ⟨?_, hend _ a w (fun j hj => hall j (by rw [hsz]; simpa using hj)) hI⟩
      rw [List.eq_nil_iff_forall_not_mem]
      intro j hj
      obtain ⟨h1, x, hx, _⟩ := mem_ready.1 hj
      have hjl : j < listed.size := by rw [hsz]; exact (Array.getElem?_eq_some_iff.1 hx).1
      rw [getD_flip hjl true false, hall j hjl] at h1
      cases h1
    | succ fuel ih =>
      intro listed a w hsz hc hI
      refine ⟨fun he => hend _ a w (fun j hj => ?_) hI, fun i hi => ?_⟩
      · have hjl : j < listed.size := by rw [hsz]; simpa using hj
        cases hx : listed.getD j false with
        | true => rfl
        | false => exact absurd he (some_ready hb listed hsz j (by rw [← hsz]; exact hjl) (by rw [getD_flip hjl true false]; exact hx))
      · obtain ⟨h1, x, hx, h2⟩ := mem_ready.1 hi
        have hil : i < listed.size := by rw [hsz]; exact (Array.getElem?_eq_some_iff.1 hx).1
        have hxl : l[i]? = some x := by simpa using hx
        have hs := hstep (fun j => listed.getD j false = true) i a w (by rw [hsz] at hil; simpa using hil) (by rw [getD_flip hil false true, h1]; simp) (fun d hd => by
          obtain ⟨e, e1, e2, rfl⟩ := deps_binds hxl hd
          exact h2 e e1 e2) hI
        refine wpOp_mono hs fun a' w' hK => ?_
        refine ih _ a' w' (by simpa using hsz) (by have := count_set_true hil h1; omega) ?_
        have he : (fun j => (listed.setIfInBounds i true).getD j false = true) = fun j => j = i ∨ listed.getD j false = true := by
          funext j
          exact propext (getD_set_iff hil)
        rw [he]
        exact hK
  refine wp_region_any hm (main _ _ a _ (by simp) (by simp) ?_)
  have he : (fun j => (Array.replicate l.toArray.size false).getD j false = true) = fun _ => False := by
    funext j
    apply propext
    refine ⟨fun h => ?_, fun h => h.elim⟩
    have h1 : (Array.replicate l.toArray.size false).getD j false = false := by simp [Array.getD]
    rw [h1] at h
    cases h
  rw [he]
  exact h0

def tailB (l : List Oper) (n : Nat) : Bool := (List.range (l.length - n)).all fun t => aheadB l (n + t)

/-- **THE FIRST n OPERATIONS MAKE MEMORY OF THEIR OWN, IN ANY ORDER; each behind them waits for all ahead of it.** The goal that is left is the tail, as a plain region has it. -/
theorem wp_region_made (R : Nat → Fact) (n : Nat) {id : Nat} {Q : Exit → Act → World → Prop} {a0 : Act} (hm : P.follows .mixedOrders = true) (hb : backB .any l.toArray = true)
    (hg : ((l.take n).all fun o => o.guard.isNone) = true) (hd : dstB l = true) (hn : n ≤ l.length) (ht : tailB l n = true)
    (hstep : ∀ i o, i < n → l[i]? = some o → StepOk P R a0 l n w0 i o)
    (hend : ∀ (xs : List Value) (lo hi : Nat → Nat) (w : World), Made R l n w0 (fun j => j < n) xs lo hi w → wpList P l.toArray Q (l.drop n) (putAll a0 l xs) w) :
    (Code.region id l.toArray true).wp P Q a0 w0 := by
  refine wp_region_inv2 (fun L a w => (∃ xs lo hi, a = putAll a0 l xs ∧ Made R l n w0 L xs lo hi w ∧ ¬ (∀ j, j < n → L j)) ∨ (∃ t, n ≤ t ∧ (L = fun j => j < t) ∧ wpList P l.toArray Q (l.drop t) a w)) hm hb ?_ ?_ ?_
  · have h0 : Made R l n w0 (fun _ => False) ((ownVals a0 l).take n) (fun _ => 0) (fun _ => 0) w0.drew := Made.start hn w0
    by_cases hz : n = 0
    · subst hz
      refine .inr ⟨0, Nat.le_refl _, by funext j; simp, ?_⟩
      have he : (fun _ => False) = fun j : Nat => j < 0 := by funext j; simp
      have := hend _ _ _ _ (he ▸ h0)
      rw [putAll_own] at this
      exact this
    · exact .inl ⟨_, _, _, (putAll_own l a0 n).symm, h0, fun h => h 0 (by omega)⟩
  · rintro L i a w hil hni hpre hcase
    obtain ⟨o, ho⟩ : ∃ o, l[i]? = some o := ⟨_, List.getElem?_eq_getElem hil⟩
    have hoa : l.toArray[i]? = some o := by simpa using ho
    have hahead : n ≤ i → (∀ j, L j → ∀ d, (deps l j).contains d = true → L d) → ∀ j, j < i → L j := by
      intro hni' hcl
      have h1 := List.all_eq_true.1 ht (i - n) (List.mem_range.2 (by omega))
      rw [show n + (i - n) = i by omega] at h1
      exact ahead_all h1 hcl hpre
    rcases hcase with ⟨xs, lo, hi, rfl, hmd, hno⟩ | ⟨t, hnt, rfl, hwp⟩
    · by_cases hin : i < n
      · have hgo : o.guard = none := by
          have h1 : o ∈ l.take n := by
            rw [List.mem_iff_getElem?]
            exact ⟨i, by rw [List.getElem?_take_of_lt hin]; exact ho⟩
          have := List.all_eq_true.1 hg o h1
          simpa using this
        unfold wpOp
        rw [hoa]
        simp only [Region.wanted, hgo, if_true]
        refine .inl (wp_weaken ?_ (fun _ _ _ h => h.elim) (fun ⟨_, _, h⟩ => h.elim) (hstep i o hin ho L xs lo hi w hmd hni hpre))
        rintro a' w' ⟨v, rfl, hbel, hr⟩
        have hmd' := hmd.step hin hni hpre hbel hr
        rw [putAll_put l xs a0 i o v hd ho (by rw [hmd.len]; exact hin)]
        by_cases hall : ∀ j, j < n → (j = i ∨ L j)
        · refine .inr ⟨n, Nat.le_refl _, ?_, ?_⟩
          · funext j
            exact propext ⟨hmd'.lt j, hall j⟩
          · have he : (fun j => j = i ∨ L j) = fun j => j < n := by
              funext j
              exact propext ⟨hmd'.lt j, hall j⟩
            rw [he] at hmd'
            exact hend _ _ _ _ hmd'
        · exact .inl ⟨_, _, _, rfl, hmd', hall⟩
      · exact absurd (fun j hj => hahead (by omega) hmd.closed j (by omega)) hno
    · have hti : i = t := by
        have h1 : t ≤ i := Nat.le_of_not_lt hni
        rcases Nat.lt_or_ge t i with h2 | h2
        · have h3 := hahead (by omega) (fun j hj d hdj => by
            obtain ⟨q, hq⟩ : ∃ q, l[j]? = some q := ⟨_, List.getElem?_eq_getElem (by omega)⟩
            obtain ⟨e, e1, e2, rfl⟩ := deps_binds hq hdj
            have := back_spec hb (by simpa using hq) e e1 e2
            omega) t h2
          omega
        · omega
      subst hti
      have hdr : l.drop i = o :: l.drop (i + 1) := by
        rw [List.drop_eq_getElem_cons hil]
        congr 1
        obtain ⟨_, h2⟩ := List.getElem?_eq_some_iff.1 ho
        exact h2
      rw [hdr] at hwp
      have hset : (fun j => j = i ∨ j < i) = fun j => j < i + 1 := by
        funext j
        apply propext
        omega
      unfold wpOp
      rw [hoa]
      dsimp only
      unfold wpList at hwp
      split
      · rename_i hw
        rw [if_pos hw] at hwp
        rcases hwp with hwp | hwp
        · refine .inl (wp_weaken (fun a' w' hK => ?_) (fun _ _ _ h => h) (fun h => h) hwp)
          exact .inr ⟨i + 1, by omega, hset, hK⟩
        · exact .inr hwp
      · rename_i hw
        rw [if_neg hw] at hwp
        exact .inr ⟨i + 1, by omega, hset, hwp⟩
  · rintro L a w hall hcase
    rcases hcase with ⟨xs, lo, hi, rfl, hmd, hno⟩ | ⟨t, hnt, rfl, hwp⟩
    · exact absurd (fun j hj => hall j (by omega)) hno
    · have h1 : l.drop t = [] := by
        rw [List.drop_eq_nil_iff]
        rcases Nat.lt_or_ge t l.length with h2 | h2
        · have := hall t h2
          omega
        · exact h2
      rw [h1] at hwp
      exact hwp

/-- One operation whose run is known, as a step. -/
theorem step_run {o : Oper} {a : Act} {w w' : World} {i : Nat} (v : Value) (hrun : (execOp a.eval o).run P w = .ok (.value v) w') (hbel : Below w.heap.size w w')
    (hr : (R i).p v ((deps l i).map fun d => xs.getD d undef) w.heap.size w'.heap.size w') : o.wp P a w (fun a' w' => ∃ v, a' = a.put o.dst v ∧ Below w.heap.size w w' ∧ (R i).p v ((deps l i).map fun d => xs.getD d undef) w.heap.size w'.heap.size w') (fun _ _ _ => False) :=
  opv_run hrun ⟨v, rfl, hbel, hr⟩
/-- One that changes nothing. -/
theorem step_pure {o : Oper} {a : Act} {w : World} {i : Nat} (v : Value) (hrun : (execOp a.eval o).run P w = .ok (.value v) w)
    (hr : (R i).p v ((deps l i).map fun d => xs.getD d undef) w.heap.size w.heap.size w) : o.wp P a w (fun a' w' => ∃ v, a' = a.put o.dst v ∧ Below w.heap.size w w' ∧ (R i).p v ((deps l i).map fun d => xs.getD d undef) w.heap.size w'.heap.size w') (fun _ _ _ => False) :=
  step_run v hrun (Below.refl _ _) hr
/-- One that makes a block. -/
theorem step_new {o : Oper} {a : Act} {w : World} {i : Nat} (v : Value) (x : Obj) (hrun : (execOp a.eval o).run P w = .ok (.value v) (w.alloc x))
    (hr : (R i).p v ((deps l i).map fun d => xs.getD d undef) w.heap.size (w.alloc x).heap.size (w.alloc x)) : o.wp P a w (fun a' w' => ∃ v, a' = a.put o.dst v ∧ Below w.heap.size w w' ∧ (R i).p v ((deps l i).map fun d => xs.getD d undef) w.heap.size w'.heap.size w') (fun _ _ _ => False) :=
  step_run v hrun ((Below.refl _ _).alloc (Nat.le_refl _) _) hr
/-- One call whose contract is known, as a step. -/
theorem step_call {o : Oper} {a : Act} {w : World} {i : Nat} {f : FuncId} {args : Array Value} {E : Ending → World → Prop} (hc : Calls P f args w E) (hrun : (execOp a.eval o).run P w = .ok (.enter f args) w)
    (hK : ∀ e w', E e w' → ∃ v, e = .returned v ∧ Below w.heap.size w w' ∧ (R i).p v ((deps l i).map fun d => xs.getD d undef) w.heap.size w'.heap.size w') : o.wp P a w (fun a' w' => ∃ v, a' = a.put o.dst v ∧ Below w.heap.size w w' ∧ (R i).p v ((deps l i).map fun d => xs.getD d undef) w.heap.size w'.heap.size w') (fun _ _ _ => False) :=
  op_call hrun hc fun e w' hE => let ⟨v, he, hb, hp⟩ := hK e w' hE; ⟨v, he, v, rfl, hb, hp⟩
end
/-- Cells and contracts at all worlds behind one. -/
theorem kin_cell {C : World → Prop} {w : World} (hC : C = fun w' => Below w.heap.size w w') {b o : Nat} {v : Value} (h : w.cell? ⟨b, o, none⟩ = some v) : ∀ y : Kin C, y.w.cell? ⟨b, o, none⟩ = some v := by
  subst hC
  exact fun y => below_cells y.has _ _ h
theorem kin_call {P : Program} {C : World → Prop} {w : World} (hC : C = fun w' => Below w.heap.size w w') {f : FuncId} {args : Array Value} {v : Value}
    (h : ∀ y, Below w.heap.size w y → Calls P f args y fun e w' => e = .returned v ∧ Below y.heap.size y w') : ∀ y : Kin C, Calls P f args y.w fun e w' => e = .returned v ∧ C w' := by
  subst hC
  exact fun y => (h y.w y.has).mono fun e w' ⟨he, hb⟩ => ⟨he, y.has.trans (hb.mono y.has.size)⟩
/-- Runs of single operations. -/
theorem ex_convert {P : Program} {o : Oper} {a : Act} {w w' : World} {v vx : Value} (x : Operand) (f t : TypeId) (ho : o.op = .convert f t x) (hx : a.eval x = vx) (hrun : (convert f t vx).run P w = .ok v w') : (execOp a.eval o).run P w = .ok (.value v) w' := by
  simp [execOp, ho, hx, hrun, Result.andThen]
theorem ex_make {P : Program} {o : Oper} {a : Act} {w w' : World} {v vx : Value} (x : Operand) (t : TypeId) (ho : o.op = .makeSlice t x x) (hx : a.eval x = vx) (hrun : (Instr.makeSlice t vx vx).run P w = .ok v w') : (execOp a.eval o).run P w = .ok (.value v) w' := by
  simp [execOp, ho, hx, hrun, Result.andThen]
end Go.Proofs.Ytfkcldaogfengaa
