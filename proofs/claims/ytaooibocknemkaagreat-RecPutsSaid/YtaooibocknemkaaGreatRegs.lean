/-
  A region that draws its order: the first n operations make memory of their own, in any order, and one of them stores into a block that another made. Conditions: each theorem's own.
-/
import Derived.Test.YtaooibocknemkaaGreatQ6RecPuts
namespace Go.Proofs.YtaooibocknemkaaGreat
open Go.RowKit Go.BigFrame
set_option linter.unusedVariables false
set_option linter.unusedSimpArgs false

/-- What holds of an operation's value and of the blocks from lo to hi; it stays while these blocks do. -/
structure SFact where
  p : Value → List Value → Nat → Nat → World → Prop
  mono : ∀ {v : Value} {d : List Value} {lo hi : Nat} {w w' : World}, (∀ b, lo ≤ b → b < hi → w'.heap[b]? = w.heap[b]?) → p v d lo hi w → p v d lo hi w'
def SFact.val (f : List Value → Value) : SFact := ⟨fun v d _ _ _ => v = f d, fun _ h => h⟩
def SFact.box (f : List Value → Obj) : SFact := ⟨fun v d lo hi w => ∃ b, lo ≤ b ∧ b < hi ∧ v = .pointer (some ⟨b, 0, none⟩) ∧ w.heap[b]? = some (f d), fun hk ⟨b, h1, h2, h3, h4⟩ => ⟨b, h1, h2, h3, (hk b h1 h2).trans h4⟩⟩
/-- The block that is made and stored into behind it. -/
def SFact.made (P : Prop) (x : Obj) : SFact := ⟨fun v _ lo hi w => ∃ b, lo ≤ b ∧ v = .pointer (some ⟨b, 0, none⟩) ∧ (¬ P → b < hi ∧ w.heap[b]? = some x), fun hk ⟨b, h1, h2, h3⟩ => ⟨b, h1, h2, fun hp => ⟨(h3 hp).1, (hk b h1 (h3 hp).1).trans (h3 hp).2⟩⟩⟩
/-- The store's own fact: the first value it waits for is the block's, the second is what it holds. -/
def SFact.stored (t : TypeId) : SFact := ⟨fun _ d lo hi w => ∃ b cs, lo ≤ b ∧ b < hi ∧ d.getD 0 undef = .pointer (some ⟨b, 0, none⟩) ∧ d.getD 1 undef = .agg cs ∧ w.heap[b]? = some (.cells cs t (0, 0)), fun hk ⟨b, cs, h1, h2, h3, h4, h5⟩ => ⟨b, cs, h1, h2, h3, h4, (hk b h1 h2).trans h5⟩⟩
def SFact.any : SFact := ⟨fun _ _ _ _ _ => True, fun _ _ => trivial⟩

structure MadeS (R : Prop → Nat → SFact) (s : Nat) (l : List Oper) (n : Nat) (w0 : World) (L : Nat → Prop) (xs : List Value) (lo hi : Nat → Nat) (w : World) : Prop where
  len : xs.length = n
  closed : ∀ j, L j → ∀ d, (deps l j).contains d = true → L d
  lt : ∀ j, L j → j < n
  bel : Below w0.heap.size w0 w
  rel : ∀ j, L j → (R (L s) j).p (xs.getD j undef) ((deps l j).map fun d => xs.getD d undef) (lo j) (hi j) w
  lohi : ∀ j, L j → w0.heap.size ≤ lo j ∧ lo j ≤ hi j ∧ hi j ≤ w.heap.size
  apart : ∀ i j, L i → L j → i ≠ j → hi i ≤ lo j ∨ hi j ≤ lo i

section
variable {P : Program} {R : Prop → Nat → SFact} {s : Nat} {l : List Oper} {n : Nat} {w0 w : World} {L : Nat → Prop} {xs : List Value} {lo hi : Nat → Nat}

theorem set_map {i : Nat} {v : Value} (hlen : xs.length = n) (hin : i < n) (hni : ¬ L i) (hcl : ∀ j, L j → ∀ d, (deps l j).contains d = true → L d) (hpre : ∀ d, (deps l i).contains d = true → L d) :
    (∀ j, L j → (xs.set i v).getD j undef = xs.getD j undef) ∧ (xs.set i v).getD i undef = v ∧ ∀ j, (j = i ∨ L j) → ((deps l j).map fun d => (xs.set i v).getD d undef) = (deps l j).map fun d => xs.getD d undef := by
  have hget : ∀ j, L j → (xs.set i v).getD j undef = xs.getD j undef := by
    intro j hj
    have hne : i ≠ j := fun e => hni (e ▸ hj)
    simp [List.getD, List.getElem?_set_ne hne]
  refine ⟨hget, ?_, ?_⟩
  · have : i < xs.length := by rw [hlen]; exact hin
    simp [List.getD, this]
  · intro j hj
    refine List.map_congr_left fun d hd => hget d ?_
    have hc : (deps l j).contains d = true := by simpa using hd
    rcases hj with rfl | hj
    · exact hpre d hc
    · exact hcl j hj d hc

/-- A value that is told by those it waits for: the kernel reckons which these are. -/
theorem MadeS.val (h : MadeS R s l n w0 L xs lo hi w) {j : Nat} (hj : L j) (f : List Value → Value) (hR : R (L s) j = SFact.val f) {x v : Value} (hx : xs.getD j undef = x) (hv : f ((deps l j).map fun d => xs.getD d undef) = v) : x = v := by
  have h1 := h.rel j hj
  rw [hR] at h1
  exact hx.symm.trans (h1.trans hv)
theorem MadeS.st (h : MadeS R s l n w0 L xs lo hi w) {j : Nat} (hj : L j) {t : TypeId} {x y : Value} (hR : R (L s) j = SFact.stored t) (hx : ((deps l j).map fun d => xs.getD d undef).getD 0 undef = x) (hy : ((deps l j).map fun d => xs.getD d undef).getD 1 undef = y) :
    ∃ b cs, lo j ≤ b ∧ b < hi j ∧ x = .pointer (some ⟨b, 0, none⟩) ∧ y = .agg cs ∧ w.heap[b]? = some (.cells cs t (0, 0)) := by
  have h1 := h.rel j hj
  rw [hR] at h1
  obtain ⟨b, cs, h2, h3, h4, h5, h6⟩ := h1
  exact ⟨b, cs, h2, h3, hx.symm.trans h4, hy.symm.trans h5, h6⟩
theorem MadeS.step (h : MadeS R s l n w0 L xs lo hi w) {i : Nat} (his : i ≠ s) (hin : i < n) (hni : ¬ L i) (hpre : ∀ d, (deps l i).contains d = true → L d) {v : Value} {w' : World}
    (hbel : Below w.heap.size w w') (hr : (R (L s) i).p v ((deps l i).map fun d => xs.getD d undef) w.heap.size w'.heap.size w') :
    MadeS R s l n w0 (fun j => j = i ∨ L j) (xs.set i v) (fun j => if j = i then w.heap.size else lo j) (fun j => if j = i then w'.heap.size else hi j) w' := by
  obtain ⟨hget, hself, hmap⟩ := set_map (v := v) h.len hin hni h.closed hpre
  have hsz := hbel.size
  have he : (s = i ∨ L s) = L s := propext ⟨fun h => h.elim (fun e => absurd e.symm his) id, .inr⟩
  refine ⟨by rw [List.length_set]; exact h.len, ?_, ?_, h.bel.trans (hbel.mono h.bel.size), ?_, ?_, ?_⟩
  · rintro j (rfl | hj) d hd
    · exact .inr (hpre d hd)
    · exact .inr (h.closed j hj d hd)
  · rintro j (rfl | hj)
    · exact hin
    · exact h.lt j hj
  · intro j hj
    rw [he]
    rcases hj with rfl | hj
    · rw [hself, hmap j (.inl rfl), if_pos rfl, if_pos rfl]
      exact hr
    · have hne : j ≠ i := fun e => hni (e ▸ hj)
      rw [hget j hj, hmap j (.inr hj), if_neg hne, if_neg hne]
      have h3 := h.lohi j hj
      exact (R (L s) j).mono (fun b _ h2 => hbel.block b (by omega)) (h.rel j hj)
  · rintro j (rfl | hj)
    · rw [if_pos rfl, if_pos rfl]
      exact ⟨h.bel.size, hsz, Nat.le_refl _⟩
    · have hne : j ≠ i := fun e => hni (e ▸ hj)
      rw [if_neg hne, if_neg hne]
      have := h.lohi j hj
      omega
  · rintro p q (rfl | hp) (rfl | hq) hpq
    · exact absurd rfl hpq
    · have hne : q ≠ p := fun e => hpq e.symm
      rw [if_pos rfl, if_pos rfl, if_neg hne, if_neg hne]
      exact .inr (h.lohi q hq).2.2
    · rw [if_pos rfl, if_pos rfl, if_neg hpq, if_neg hpq]
      exact .inl (h.lohi p hp).2.2
    · have h1 : p ≠ i := fun e => hni (e ▸ hp)
      have h2 : q ≠ i := fun e => hni (e ▸ hq)
      rw [if_neg h1, if_neg h1, if_neg h2, if_neg h2]
      exact h.apart p q hp hq hpq

/-- The store: the block that operation a made is from now on that of the store itself. -/
theorem MadeS.store (h : MadeS R s l n w0 L xs lo hi w) {a : Nat} (ha : L a) (hin : s < n) (hni : ¬ L s) (hpre : ∀ d, (deps l s).contains d = true → L d) {v : Value} {w' : World}
    (hR : ∀ j, j ≠ a → ∀ v d lo hi w, (R False j).p v d lo hi w → (R True j).p v d lo hi w)
    (hbel : Below w0.heap.size w0 w') (hsz : w'.heap.size = w.heap.size) (hout : ∀ b, ¬ (lo a ≤ b ∧ b < hi a) → w'.heap[b]? = w.heap[b]?)
    (hs : (R True s).p v ((deps l s).map fun d => xs.getD d undef) (lo a) (hi a) w') (hra : (R True a).p (xs.getD a undef) ((deps l a).map fun d => xs.getD d undef) (lo a) (lo a) w') :
    MadeS R s l n w0 (fun j => j = s ∨ L j) (xs.set s v) (fun j => if j = s then lo a else lo j) (fun j => if j = s then hi a else if j = a then lo a else hi j) w' := by
  obtain ⟨hget, hself, hmap⟩ := set_map (v := v) h.len hin hni h.closed hpre
  have he : (s = s ∨ L s) = True := propext ⟨fun _ => trivial, fun _ => .inl rfl⟩
  have hf : (L s) = False := propext ⟨hni, False.elim⟩
  have hla := h.lohi a ha
  refine ⟨by rw [List.length_set]; exact h.len, ?_, ?_, hbel, ?_, ?_, ?_⟩
  · rintro j (rfl | hj) d hd
    · exact .inr (hpre d hd)
    · exact .inr (h.closed j hj d hd)
  · rintro j (rfl | hj)
    · exact hin
    · exact h.lt j hj
  · intro j hj
    rw [he]
    rcases hj with rfl | hj
    · rw [hself, hmap j (.inl rfl), if_pos rfl, if_pos rfl]
      exact hs
    · have hne : j ≠ s := fun e => hni (e ▸ hj)
      rw [hget j hj, hmap j (.inr hj), if_neg hne, if_neg hne]
      by_cases hja : j = a
      · subst hja; rw [if_pos rfl]; exact hra
      · rw [if_neg hja]
        have h3 := h.rel j hj
        rw [hf] at h3
        have h4 := h.apart j a hj ha hja
        exact (R True j).mono (fun b h1 h2 => hout b (by omega)) (hR j hja _ _ _ _ _ h3)
  · rintro j (rfl | hj)
    · rw [if_pos rfl, if_pos rfl]
      omega
    · have hne : j ≠ s := fun e => hni (e ▸ hj)
      rw [if_neg hne, if_neg hne]
      have := h.lohi j hj
      split
      · rename_i e; subst e; omega
      · omega
  · have other : ∀ q, L q → q ≠ s → (hi a ≤ lo q ∨ (if q = a then lo a else hi q) ≤ lo a) := by
      intro q hq hqs
      by_cases e : q = a
      · rw [if_pos e]; omega
      · rw [if_neg e]
        have := h.apart q a hq ha e
        omega
    rintro p q (rfl | hp) (rfl | hq) hpq
    · exact absurd rfl hpq
    · have hne : q ≠ p := fun e => hpq e.symm
      rw [if_pos rfl, if_pos rfl, if_neg hne, if_neg hne]
      exact other q hq hne
    · rw [if_pos rfl, if_pos rfl, if_neg hpq, if_neg hpq]
      exact (other p hp hpq).symm
    · have h1 : p ≠ s := fun e => hni (e ▸ hp)
      have h2 : q ≠ s := fun e => hni (e ▸ hq)
      rw [if_neg h1, if_neg h1, if_neg h2, if_neg h2]
      have h3 := h.apart p q hp hq hpq
      have h4 := h.lohi p hp
      have h5 := h.lohi q hq
      split <;> split <;> (try subst_vars) <;> omega

theorem MadeS.start {a0 : Act} (hl : n ≤ l.length) (w : World) : MadeS R s l n w (fun _ => False) ((ownVals a0 l).take n) (fun _ => 0) (fun _ => 0) w.drew :=
  ⟨by simp [ownVals]; omega, fun _ h => h.elim, fun _ h => h.elim, ⟨rfl, rfl, rfl, Nat.le_refl _, fun _ _ => rfl⟩, fun _ h => h.elim, fun _ h => h.elim, fun _ _ h => h.elim⟩

/-- What is asked behind one operation. -/
def PostS (R : Prop → Nat → SFact) (s a : Nat) (l : List Oper) (w0 : World) (L : Nat → Prop) (xs : List Value) (lo hi : Nat → Nat) (w : World) (i : Nat) (v : Value) (w' : World) : Prop :=
  (i ≠ s ∧ Below w.heap.size w w' ∧ (R (L s) i).p v ((deps l i).map fun d => xs.getD d undef) w.heap.size w'.heap.size w') ∨
  (i = s ∧ L a ∧ Below w0.heap.size w0 w' ∧ w'.heap.size = w.heap.size ∧ (∀ b, ¬ (lo a ≤ b ∧ b < hi a) → w'.heap[b]? = w.heap[b]?) ∧ (R True s).p v ((deps l s).map fun d => xs.getD d undef) (lo a) (hi a) w' ∧ (R True a).p (xs.getD a undef) ((deps l a).map fun d => xs.getD d undef) (lo a) (lo a) w')
def StepOkS (P : Program) (R : Prop → Nat → SFact) (s a : Nat) (a0 : Act) (l : List Oper) (n : Nat) (w0 : World) (i : Nat) (o : Oper) : Prop :=
  ∀ (L : Nat → Prop) (xs : List Value) (lo hi : Nat → Nat) (w : World), MadeS R s l n w0 L xs lo hi w → ¬ L i → (∀ d, (deps l i).contains d = true → L d) →
    o.wp P (putAll a0 l xs) w (fun a' w' => ∃ v, a' = (putAll a0 l xs).put o.dst v ∧ PostS R s a l w0 L xs lo hi w i v w') (fun _ _ _ => False)

theorem wp_region_stored (R : Prop → Nat → SFact) (n s a : Nat) {id : Nat} {Q : Exit → Act → World → Prop} {a0 : Act} (hm : P.follows .mixedOrders = true) (hb : backB .any l.toArray = true)
    (hg : ((l.take n).all fun o => o.guard.isNone) = true) (hd : dstB l = true) (hn : n ≤ l.length) (ht : tailB l n = true) (hn0 : n ≠ 0)
    (hR : ∀ j, j ≠ a → ∀ v d lo hi w, (R False j).p v d lo hi w → (R True j).p v d lo hi w)
    (hstep : ∀ i o, i < n → l[i]? = some o → StepOkS P R s a a0 l n w0 i o)
    (hend : ∀ (xs : List Value) (lo hi : Nat → Nat) (w : World), MadeS R s l n w0 (fun j => j < n) xs lo hi w → wpList P l.toArray Q (l.drop n) (putAll a0 l xs) w) :
    (Code.region id l.toArray true).wp P Q a0 w0 := by
  refine wp_region_inv2 (fun L a w => (∃ xs lo hi, a = putAll a0 l xs ∧ MadeS R s l n w0 L xs lo hi w ∧ ¬ (∀ j, j < n → L j)) ∨ (∃ t, n ≤ t ∧ (L = fun j => j < t) ∧ wpList P l.toArray Q (l.drop t) a w)) hm hb ?_ ?_ ?_
  · have h0 : MadeS R s l n w0 (fun _ => False) ((ownVals a0 l).take n) (fun _ => 0) (fun _ => 0) w0.drew := MadeS.start hn w0
    exact .inl ⟨_, _, _, (putAll_own l a0 n).symm, h0, fun h => h 0 (by omega)⟩
  · rintro L i a1 w hil hni hpre hcase
    obtain ⟨o, ho⟩ : ∃ o, l[i]? = some o := ⟨_, List.getElem?_eq_getElem hil⟩
    have hoa : l.toArray[i]? = some o := by simpa using ho
    have hahead : n ≤ i → (∀ j, L j → ∀ d, (deps l j).contains d = true → L d) → ∀ j, j < i → L j := by
      intro hni' hcl
      have h1 := List.all_eq_true.1 ht (i - n) (List.mem_range.2 (by omega))
      rw [show n + (i - n) = i by omega] at h1
      exact ahead_all h1 hcl hpre
    rcases hcase with ⟨xs, lo, hi, rfl, hmd, hno⟩ | ⟨t, hnt, rfl, hwp⟩
    · by_cases hin : i < n
      · have hgo : o.guard = none := by
          have h1 : o ∈ l.take n := by
            rw [List.mem_iff_getElem?]
            exact ⟨i, by rw [List.getElem?_take_of_lt hin]; exact ho⟩
          have := List.all_eq_true.1 hg o h1
          simpa using this
        unfold wpOp
        rw [hoa]
        simp only [Region.wanted, hgo, if_true]
        refine .inl (wp_weaken ?_ (fun _ _ _ h => h.elim) (fun ⟨_, _, h⟩ => h.elim) (hstep i o hin ho L xs lo hi w hmd hni hpre))
        rintro a' w' ⟨v, rfl, hpost⟩
        obtain ⟨lo', hi', hmd'⟩ : ∃ lo' hi', MadeS R s l n w0 (fun j => j = i ∨ L j) (xs.set i v) lo' hi' w' := by
          rcases hpost with ⟨h1, h2, h3⟩ | ⟨h1, h2, h3, h4, h5, h6, h7⟩
          · exact ⟨_, _, hmd.step h1 hin hni hpre h2 h3⟩
          · subst h1
            exact ⟨_, _, hmd.store h2 hin hni hpre hR h3 h4 h5 h6 h7⟩
        rw [putAll_put l xs a0 i o v hd ho (by rw [hmd.len]; exact hin)]
        by_cases hall : ∀ j, j < n → (j = i ∨ L j)
        · refine .inr ⟨n, Nat.le_refl _, ?_, ?_⟩
          · funext j
            exact propext ⟨hmd'.lt j, hall j⟩
          · have he : (fun j => j = i ∨ L j) = fun j => j < n := by
              funext j
              exact propext ⟨hmd'.lt j, hall j⟩
            rw [he] at hmd'
            exact hend _ _ _ _ hmd'
        · exact .inl ⟨_, _, _, rfl, hmd', hall⟩
      · exact absurd (fun j hj => hahead (by omega) hmd.closed j (by omega)) hno
    · have hti : i = t := by
        have h1 : t ≤ i := Nat.le_of_not_lt hni
        rcases Nat.lt_or_ge t i with h2 | h2
        · have h3 := hahead (by omega) (fun j hj d hdj => by
            obtain ⟨q, hq⟩ : ∃ q, l[j]? = some q := ⟨_, List.getElem?_eq_getElem (by omega)⟩
            obtain ⟨e, e1, e2, rfl⟩ := deps_binds hq hdj
            have := back_spec hb (by simpa using hq) e e1 e2
            omega) t h2
          omega
        · omega
      subst hti
      have hdr : l.drop i = o :: l.drop (i + 1) := by
        rw [List.drop_eq_getElem_cons hil]
        congr 1
        obtain ⟨_, h2⟩ := List.getElem?_eq_some_iff.1 ho
        exact h2
      rw [hdr] at hwp
      have hset : (fun j => j = i ∨ j < i) = fun j => j < i + 1 := by
        funext j
        apply propext
        omega
      unfold wpOp
      rw [hoa]
      dsimp only
      unfold wpList at hwp
      split
      · rename_i hw
        rw [if_pos hw] at hwp
        rcases hwp with hwp | hwp
        · refine .inl (wp_weaken (fun a' w' hK => ?_) (fun _ _ _ h => h) (fun h => h) hwp)
          exact .inr ⟨i + 1, by omega, hset, hK⟩
        · exact .inr hwp
      · rename_i hw
        rw [if_neg hw] at hwp
        exact .inr ⟨i + 1, by omega, hset, hwp⟩
  · rintro L a w hall hcase
    rcases hcase with ⟨xs, lo, hi, rfl, hmd, hno⟩ | ⟨t, hnt, rfl, hwp⟩
    · exact absurd (fun j hj => hall j (by omega)) hno
    · have h1 : l.drop t = [] := by
        rw [List.drop_eq_nil_iff]
        rcases Nat.lt_or_ge t l.length with h2 | h2
        · have := hall t h2
          omega
        · exact h2
      rw [h1] at hwp
      exact hwp

theorem sstep_run {o : Oper} {a : Act} {w w' : World} {i k : Nat} (his : i ≠ s) (v : Value) (hrun : (execOp a.eval o).run P w = .ok (.value v) w') (hbel : Below w.heap.size w w')
    (hr : (R (L s) i).p v ((deps l i).map fun d => xs.getD d undef) w.heap.size w'.heap.size w') : o.wp P a w (fun a' w' => ∃ v, a' = a.put o.dst v ∧ PostS R s k l w0 L xs lo hi w i v w') (fun _ _ _ => False) :=
  opv_run hrun ⟨v, rfl, .inl ⟨his, hbel, hr⟩⟩
theorem sstep_pure {o : Oper} {a : Act} {w : World} {i k : Nat} (his : i ≠ s) (v : Value) (hrun : (execOp a.eval o).run P w = .ok (.value v) w)
    (hr : (R (L s) i).p v ((deps l i).map fun d => xs.getD d undef) w.heap.size w.heap.size w) : o.wp P a w (fun a' w' => ∃ v, a' = a.put o.dst v ∧ PostS R s k l w0 L xs lo hi w i v w') (fun _ _ _ => False) :=
  sstep_run his v hrun (Below.refl _ _) hr
theorem sstep_new {o : Oper} {a : Act} {w : World} {i k : Nat} (his : i ≠ s) (v : Value) (x : Obj) (hrun : (execOp a.eval o).run P w = .ok (.value v) (w.alloc x))
    (hr : (R (L s) i).p v ((deps l i).map fun d => xs.getD d undef) w.heap.size (w.alloc x).heap.size (w.alloc x)) : o.wp P a w (fun a' w' => ∃ v, a' = a.put o.dst v ∧ PostS R s k l w0 L xs lo hi w i v w') (fun _ _ _ => False) :=
  sstep_run his v hrun ((Below.refl _ _).alloc (Nat.le_refl _) _) hr
theorem sstep_call {o : Oper} {a : Act} {w : World} {i k : Nat} (his : i ≠ s) {f : FuncId} {args : Array Value} {E : Ending → World → Prop} (hc : Calls P f args w E) (hrun : (execOp a.eval o).run P w = .ok (.enter f args) w)
    (hK : ∀ e w', E e w' → ∃ v, e = .returned v ∧ Below w.heap.size w w' ∧ (R (L s) i).p v ((deps l i).map fun d => xs.getD d undef) w.heap.size w'.heap.size w') : o.wp P a w (fun a' w' => ∃ v, a' = a.put o.dst v ∧ PostS R s k l w0 L xs lo hi w i v w') (fun _ _ _ => False) :=
  op_call hrun hc fun e w' hE => let ⟨v, he, hb, hp⟩ := hK e w' hE; ⟨v, he, v, rfl, .inl ⟨his, hb, hp⟩⟩
/-- The store: of a whole row into a block that operation k made. -/
theorem sstep_row {o : Oper} {a : Act} {w : World} {k : Nat} (ty : TypeId) (x y : Operand) (t : TypeId) (old cells : Array Value) (g : Nat) (hR1 : R (L s) k = SFact.made (L s) (.cells old t (0, 0))) (hR2 : R True k = SFact.made True (.cells old t (0, 0))) (hR3 : R True s = SFact.stored t)
    (hmd : MadeS R s l n w0 L xs lo hi w) (hni : ¬ L s) (hk : L k) (ho : o.op = .store ty x y) (hxk : xs.getD k undef = .pointer (some ⟨g, 0, none⟩)) (hx : a.eval x = .pointer (some ⟨g, 0, none⟩)) (hy : a.eval y = .agg cells)
    (hi0 : (P.info? ty).map (·.size) = some cells.size) (hold : old.size = cells.size) (h1 : cells.all (·.oneCell') = true)
    (hd0 : ((deps l s).map fun d => xs.getD d undef).getD 0 undef = .pointer (some ⟨g, 0, none⟩)) (hd1 : ((deps l s).map fun d => xs.getD d undef).getD 1 undef = .agg cells) :
    o.wp P a w (fun a' w' => ∃ v, a' = a.put o.dst v ∧ PostS R s k l w0 L xs lo hi w s v w') (fun _ _ _ => False) := by
  have hlo := hmd.lohi k hk
  have hrel := hmd.rel k hk
  rw [hR1] at hrel
  obtain ⟨b, hb1, hb2, hb3⟩ := hrel
  obtain ⟨hb4, hb5⟩ := hb3 hni
  rw [hxk] at hb2
  obtain rfl : g = b := by injection hb2 with e; injection e with e; injection e
  refine Go.wp_store_row ty x y ho g cells hx hy t old hb5 hi0 hold h1 ⟨undef, rfl, .inr ⟨rfl, hk, ?_, by simp [World.setRow], fun b hb => setRow_other w g b _ (fun e => hb (e ▸ ⟨hb1, hb4⟩)), ?_, ?_⟩⟩
  · exact ⟨hmd.bel.os, hmd.bel.tape, hmd.bel.output, by have := hmd.bel.size; simpa [World.setRow] using this, fun b hb => (setRow_other w g b _ (by omega)).trans (hmd.bel.block b hb)⟩
  · rw [hR3]
    exact ⟨g, cells, hb1, hb4, hd0, hd1, setRow_heap w g _ cells _ _ hb5⟩
  · rw [hR2]
    exact ⟨g, hb1, hxk, fun h => absurd trivial h⟩
end
end Go.Proofs.YtaooibocknemkaaGreat
