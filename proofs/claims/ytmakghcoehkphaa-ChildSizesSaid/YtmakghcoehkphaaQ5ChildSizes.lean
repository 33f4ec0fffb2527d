/-
  ChildSizes, part 5: the texts Regs, Cm, one after another. Conditions: none beyond those named at each.
-/
import Derived.Test.YtmakghcoehkphaaReg
import Derived.Test.YtmakghcoehkphaaQ4ChildSizes
section
/-
  A region that draws its order: the first n operations make memory of their own, in any order, and one of them stores into a block that another made. Conditions: each theorem's own.
-/
namespace Go.Proofs.Ytmakghcoehkphaa
open Go.RowKit Go.BigFrame
set_option linter.unusedVariables false
set_option linter.unusedSimpArgs false

/-- What holds of an operation's value and of the blocks from lo to hi; it stays while these blocks do. -/
structure SFact where
  p : Value → List Value → Nat → Nat → World → Prop
  mono : ∀ {v : Value} {d : List Value} {lo hi : Nat} {w w' : World}, (∀ b, lo ≤ b → b < hi → w'.heap[b]? = w.heap[b]?) → p v d lo hi w → p v d lo hi w'
def SFact.val (f : List Value → Value) : SFact := ⟨fun v d _ _ _ => v = f d, fun _ h => h⟩
def SFact.box (f : List Value → Obj) : SFact := ⟨fun v d lo hi w => ∃ b, lo ≤ b ∧ b < hi ∧ v = .pointer (some ⟨b, 0, none⟩) ∧ w.heap[b]? = some (f d), fun hk ⟨b, h1, h2, h3, h4⟩ => ⟨b, h1, h2, h3, (hk b h1 h2).trans h4⟩⟩
/-- The block that is made and stored into behind it. -/
def SFact.made (P : Prop) (x : Obj) : SFact := ⟨fun v _ lo hi w => ∃ b, lo ≤ b ∧ v = .pointer (some ⟨b, 0, none⟩) ∧ (¬ P → b < hi ∧ w.heap[b]? = some x), fun hk ⟨b, h1, h2, h3⟩ => ⟨b, h1, h2, fun hp => ⟨(h3 hp).1, (hk b h1 (h3 hp).1).trans (h3 hp).2⟩⟩⟩
/-- The store's own fact: the first value it waits for is the block's, the second is what it holds. -/
def SFact.stored (t : TypeId) : SFact := ⟨fun _ d lo hi w => ∃ b cs, lo ≤ b ∧ b < hi ∧ d.getD 0 undef = .pointer (some ⟨b, 0, none⟩) ∧ d.getD 1 undef = .agg cs ∧ w.heap[b]? = some (.cells cs t (0, 0)), fun hk ⟨b, cs, h1, h2, h3, h4, h5⟩ => ⟨b, cs, h1, h2, h3, h4, (hk b h1 h2).trans h5⟩⟩
def SFact.any : SFact := ⟨fun _ _ _ _ _ => True, fun _ _ => trivial⟩

structure MadeS (R : Prop → Nat → SFact) (s : Nat) (l : List Oper) (n : Nat) (w0 : World) (L : Nat → Prop) (xs : List Value) (lo hi : Nat → Nat) (w : World) : Prop where
  len : xs.length = n
  closed : ∀ j, L j → ∀ d, (deps l j).contains d = true → L d
  lt : ∀ j, L j → j < n
  bel : Below w0.heap.size w0 w
  rel : ∀ j, L j → (R (L s) j).p (xs.getD j undef) ((deps l j).map fun d => xs.getD d undef) (lo j) (hi j) w
  lohi : ∀ j, L j → w0.heap.size ≤ lo j ∧ lo j ≤ hi j ∧ hi j ≤ w.heap.size
  apart : ∀ i j, L i → L j → i ≠ j → hi i ≤ lo j ∨ hi j ≤ lo i

section
variable {P : Program} {R : Prop → Nat → SFact} {s : Nat} {l : List Oper} {n : Nat} {w0 w : World} {L : Nat → Prop} {xs : List Value} {lo hi : Nat → Nat}

theorem set_map {i : Nat} {v : Value} (hlen : xs.length = n) (hin : i < n) (hni : ¬ L i) (hcl : ∀ j, L j → ∀ d, (deps l j).contains d = true → L d) (hpre : ∀ d, (deps l i).contains d = true → L d) :
    (∀ j, L j → (xs.set i v).getD j undef = xs.getD j undef) ∧ (xs.set i v).getD i undef = v ∧ ∀ j, (j = i ∨ L j) → ((deps l j).map fun d => (xs.set i v).getD d undef) = (deps l j).map fun d => xs.getD d undef := by
  have hget : ∀ j, L j → (xs.set i v).getD j undef = xs.getD j undef := by
    intro j hj
    have hne : i ≠ j := fun e => hni (e ▸ hj)
    simp [List.getD, List.getElem?_set_ne hne]
  refine ⟨hget, ?_, ?_⟩
  · have : i < xs.length := by rw [hlen]; exact hin
    simp [List.getD, this]
  · intro j hj
    refine List.map_congr_left fun d hd => hget d ?_
    have hc : (deps l j).contains d = true := by simpa using hd
    rcases hj with rfl | hj
    · exact hpre d hc
    · exact hcl j hj d hc

/-- A value that is told by those it waits for: the kernel reckons which these are. -/
theorem MadeS.val (h : MadeS R s l n w0 L xs lo hi w) {j : Nat} (hj : L j) (f : List Value → Value) (hR : R (L s) j = SFact.val f) {x v : Value} (hx : xs.getD j undef = x) (hv : f ((deps l j).map fun d => xs.getD d undef) = v) : x = v := by
  have h1 := h.rel j hj
  rw [hR] at h1
  exact hx.symm.trans (h1.trans hv)
theorem MadeS.st (h : MadeS R s l n w0 L xs lo hi w) {j : Nat} (hj : L j) {t : TypeId} {x y : Value} (hR : R (L s) j = SFact.stored t) (hx : ((deps l j).map fun d => xs.getD d undef).getD 0 undef = x) (hy : ((deps l j).map fun d => xs.getD d undef).getD 1 undef = y) :
    ∃ b cs, lo j ≤ b ∧ b < hi j ∧ x = .pointer (some ⟨b, 0, none⟩) ∧ y = .agg cs ∧ w.heap[b]? = some (.cells cs t (0, 0)) := by
  have h1 := h.rel j hj
  rw [hR] at h1
  obtain ⟨b, cs, h2, h3, h4, h5, h6⟩ := h1
  exact ⟨b, cs, h2, h3, hx.symm.trans h4, hy.symm.trans h5, h6⟩
theorem MadeS.step (h : MadeS R s l n w0 L xs lo hi w) {i : Nat} (his : i ≠ s) (hin : i < n) (hni : ¬ L i) (hpre : ∀ d, (deps l i).contains d = true → L d) {v : Value} {w' : World}
    (hbel : Below w.heap.size w w') (hr : (R (L s) i).p v ((deps l i).map fun d => xs.getD d undef) w.heap.size w'.heap.size w') :
    MadeS R s l n w0 (fun j => j = i ∨ L j) (xs.set i v) (fun j => if j = i then w.heap.size else lo j) (fun j => if j = i then w'.heap.size else hi j) w' := by
  obtain ⟨hget, hself, hmap⟩ := set_map (v := v) h.len hin hni h.closed hpre
  have hsz := hbel.size
  have he : (s = i ∨ L s) = L s := propext ⟨fun h => h.elim (fun e => absurd e.symm his) id, .inr⟩
  refine ⟨by rw [List.length_set]; exact h.len, ?_, ?_, h.bel.trans (hbel.mono h.bel.size), ?_, ?_, ?_⟩
  · rintro j (rfl | hj) d hd
    · exact .inr (hpre d hd)
    · exact .inr (h.closed j hj d hd)
  · rintro j (rfl | hj)
    · exact hin
    · exact h.lt j hj
  · intro j hj
    rw [he]
    rcases hj with rfl | hj
    · rw [hself, hmap j (.inl rfl), if_pos rfl, if_pos rfl]
      exact hr
    · have hne : j ≠ i := fun e => hni (e ▸ hj)
      rw [hget j hj, hmap j (.inr hj), if_neg hne, if_neg hne]
      have h3 := h.lohi j hj
      exact (R (L s) j).mono (fun b _ h2 => hbel.block b (by omega)) (h.rel j hj)
  · rintro j (rfl | hj)
    · rw [if_pos rfl, if_pos rfl]
      exact ⟨h.bel.size, hsz, Nat.le_refl _⟩
    · have hne : j ≠ i := fun e => hni (e ▸ hj)
      rw [if_neg hne, if_neg hne]
      have := h.lohi j hj
      omega
  · rintro p q (rfl | hp) (rfl | hq) hpq
    · exact absurd rfl hpq
    · have hne : q ≠ p := fun e => hpq e.symm
      rw [if_pos rfl, if_pos rfl, if_neg hne, if_neg hne]
      exact .inr (h.lohi q hq).2.2
    · rw [if_pos rfl, if_pos rfl, if_neg hpq, if_neg hpq]
      exact .inl (h.lohi p hp).2.2
    · have h1 : p ≠ i := fun e => hni (e ▸ hp)
      have h2 : q ≠ i := fun e => hni (e ▸ hq)
      rw [if_neg h1, if_neg h1, if_neg h2, if_neg h2]
      exact h.apart p q hp hq hpq

/-- The store: the block that operation a made is from now on that of the store itself. -/
theorem MadeS.store (h : MadeS R s l n w0 L xs lo hi w) {a : Nat} (ha : L a) (hin : s < n) (hni : ¬ L s) (hpre : ∀ d, (deps l s).contains d = true → L d) {v : Value} {w' : World}
    (hR : ∀ j, j ≠ a → ∀ v d lo hi w, (R False j).p v d lo hi w → (R True j).p v d lo hi w)
    (hbel : Below w0.heap.size w0 w') (hsz : w'.heap.size = w.heap.size) (hout : ∀ b, ¬ (lo a ≤ b ∧ b < hi a) → w'.heap[b]? = w.heap[b]?)
    (hs : (R True s).p v ((deps l s).map fun d => xs.getD d undef) (lo a) (hi a) w') (hra : (R True a).p (xs.getD a undef) ((deps l a).map fun d => xs.getD d undef) (lo a) (lo a) w') :
    MadeS R s l n w0 (fun j => j = s ∨ L j) (xs.set s v) (fun j => if j = s then lo a else lo j) (fun j => if j = s then hi a else if j = a then lo a else hi j) w' := by
  obtain ⟨hget, hself, hmap⟩ := set_map (v := v) h.len hin hni h.closed hpre
  have he : (s = s ∨ L s) = True := propext ⟨fun _ => trivial, fun _ => .inl rfl⟩
  have hf : (L s) = False := propext ⟨hni, False.elim⟩
  have hla := h.lohi a ha
  refine ⟨by rw [List.length_set]; exact h.len, ?_, ?_, hbel, ?_, ?_, ?_⟩
  · rintro j (rfl | hj) d hd
    · exact .inr (hpre d hd)
    · exact .inr (h.closed j hj d hd)
  · rintro j (rfl | hj)
    · exact hin
    · exact h.lt j hj
  · intro j hj
    rw [he]
    rcases hj with rfl | hj
    · rw [hself, hmap j (.inl rfl), if_pos rfl, if_pos rfl]
      exact hs
    · have hne : j ≠ s := fun e => hni (e ▸ hj)
      rw [hget j hj, hmap j (.inr hj), if_neg hne, if_neg hne]
      by_cases hja : j = a
      · subst hja; rw [if_pos rfl]; exact hra
      · rw [if_neg hja]
        have h3 := h.rel j hj
        rw [hf] at h3
        have h4 := h.apart j a hj ha hja
        exact (R True j).mono (fun b h1 h2 => hout b (by omega)) (hR j hja _ _ _ _ _ h3)
  · rintro j (rfl | hj)
    · rw [if_pos rfl, if_pos rfl]
      omega
    · have hne : j ≠ s := fun e => hni (e ▸ hj)
      rw [if_neg hne, if_neg hne]
      have := h.lohi j hj
      split
      · rename_i e; subst e; omega
      · omega
  · have other : ∀ q, L q → q ≠ s → (hi a ≤ lo q ∨ (if q = a then lo a else hi q) ≤ lo a) := by
      intro q hq hqs
      by_cases e : q = a
      · rw [if_pos e]; omega
      · rw [if_neg e]
        have := h.apart q a hq ha e
        omega
    rintro p q (rfl | hp) (rfl | hq) hpq
    · exact absurd rfl hpq
    · have hne : q ≠ p := fun e => hpq e.symm
      rw [if_pos rfl, if_pos rfl, if_neg hne, if_neg hne]
      exact other q hq hne
    · rw [if_pos rfl, if_pos rfl, if_neg hpq, if_neg hpq]
      exact (other p hp hpq).symm
    · have h1 : p ≠ s := fun e => hni (e ▸ hp)
      have h2 : q ≠ s := fun e => hni (e ▸ hq)
      rw [if_neg h1, if_neg h1, if_neg h2, if_neg h2]
      have h3 := h.apart p q hp hq hpq
      have h4 := h.lohi p hp
      have h5 := h.lohi q hq
      split <;> split <;> (try subst_vars) <;> omega

theorem MadeS.start {a0 : Act} (hl : n ≤ l.length) (w : World) : MadeS R s l n w (fun _ => False) ((ownVals a0 l).take n) (fun _ => 0) (fun _ => 0) w.drew :=
  ⟨by simp [ownVals]; omega, fun _ h => h.elim, fun _ h => h.elim, ⟨rfl, rfl, rfl, Nat.le_refl _, fun _ _ => rfl⟩, fun _ h => h.elim, fun _ h => h.elim, fun _ _ h => h.elim⟩

/-- What is asked behind one operation. -/
def PostS (R : Prop → Nat → SFact) (s a : Nat) (l : List Oper) (w0 : World) (L : Nat → Prop) (xs : List Value) (lo hi : Nat → Nat) (w : World) (i : Nat) (v : Value) (w' : World) : Prop :=
  (i ≠ s ∧ Below w.heap.size w w' ∧ (R (L s) i).p v ((deps l i).map fun d => xs.getD d undef) w.heap.size w'.heap.size w') ∨
  (i = s ∧ L a ∧ Below w0.heap.size w0 w' ∧ w'.heap.size = w.heap.size ∧ (∀ b, ¬ (lo a ≤ b ∧ b < hi a) → w'.heap[b]? = w.heap[b]?) ∧ (R True s).p v ((deps l s).map fun d => xs.getD d undef) (lo a) (hi a) w' ∧ (R True a).p (xs.getD a undef) ((deps l a).map fun d => xs.getD d undef) (lo a) (lo a) w')
def StepOkS (P : Program) (R : Prop → Nat → SFact) (s a : Nat) (a0 : Act) (l : List Oper) (n : Nat) (w0 : World) (i : Nat) (o : Oper) : Prop :=
  ∀ (L : Nat → Prop) (xs : List Value) (lo hi : Nat → Nat) (w : World), MadeS R s l n w0 L xs lo hi w → ¬ L i → (∀ d, (deps l i).contains d = true → L d) →
    o.wp P (putAll a0 l xs) w (fun a' w' => ∃ v, a' = (putAll a0 l xs).put o.dst v ∧ PostS R s a l w0 L xs lo hi w i v w') (fun _ _ _ => False)

theorem wp_region_stored (R : Prop → Nat → SFact) (n s a : Nat) {id : Nat} {Q : Exit → Act → World → Prop} {a0 : Act} (hm : P.follows .mixedOrders = true) (hb : backB .any l.toArray = true)
    (hg : ((l.take n).all fun o => o.guard.isNone) = true) (hd : dstB l = true) (hn : n ≤ l.length) (ht : tailB l n = true) (hn0 : n ≠ 0)
    (hR : ∀ j, j ≠ a → ∀ v d lo hi w, (R False j).p v d lo hi w → (R True j).p v d lo hi w)
    (hstep : ∀ i o, i < n → l[i]? = some o → StepOkS P R s a a0 l n w0 i o)
    (hend : ∀ (xs : List Value) (lo hi : Nat → Nat) (w : World), MadeS R s l n w0 (fun j => j < n) xs lo hi w → wpList P l.toArray Q (l.drop n) (putAll a0 l xs) w) :
    (Code.region id l.toArray true).wp P Q a0 w0 := by
  refine wp_region_inv2 (fun L a w => (∃ xs lo hi, a = putAll a0 l xs ∧ MadeS R s l n w0 L xs lo hi w ∧ ¬ (∀ j, j < n → L j)) ∨ (∃ t, n ≤ t ∧ (L = fun j => j < t) ∧ wpList P l.toArray Q (l.drop t) a w)) hm hb ?_ ?_ ?_
  · have h0 : MadeS R s l n w0 (fun _ => False) ((ownVals a0 l).take n) (fun _ => 0) (fun _ => 0) w0.drew := MadeS.start hn w0
    exact .inl ⟨_, _, _, (putAll_own l a0 n).symm, h0, fun h => h 0 (by omega)⟩
  · rintro L i a1 w hil hni hpre hcase
    obtain ⟨o, ho⟩ : ∃ o, l[i]? = some o := ⟨_, List.getElem?_eq_getElem hil⟩
    have hoa : l.toArray[i]? = some o := by simpa using ho
    have hahead : n ≤ i → (∀ j, L j → ∀ d, (deps l j).contains d = true → L d) → ∀ j, j < i → L j := by
      intro hni' hcl
      have h1 := List.all_eq_true.1 ht (i - n) (List.mem_range.2 (by omega))
      rw [show n + (i - n) = i by omega] at h1
      exact ahead_all h1 hcl hpre
    rcases hcase with ⟨xs, lo, hi, rfl, hmd, hno⟩ | ⟨t, hnt, rfl, hwp⟩
    · by_cases hin : i < n
      · have hgo : o.guard = none := by
          have h1 : o ∈ l.take n := by
            rw [List.mem_iff_getElem?]
            exact ⟨i, by rw [List.getElem?_take_of_lt hin]; exact ho⟩
          have := List.all_eq_true.1 hg o h1
          simpa using this
        unfold wpOp
        rw [hoa]
        simp only [Region.wanted, hgo, if_true]
        refine .inl (wp_weaken ?_ (fun _ _ _ h => h.elim) (fun ⟨_, _, h⟩ => h.elim) (hstep i o hin ho L xs lo hi w hmd hni hpre))
        rintro a' w' ⟨v, rfl, hpost⟩
        obtain ⟨lo', hi', hmd'⟩ : ∃ lo' hi', MadeS R s l n w0 (fun j => j = i ∨ L j) (xs.set i v) lo' hi' w' := by
          rcases hpost with ⟨h1, h2, h3⟩ | ⟨h1, h2, h3, h4, h5, h6, h7⟩
          · exact ⟨_, _, hmd.step h1 hin hni hpre h2 h3⟩
          · subst h1
            exact ⟨_, _, hmd.store h2 hin hni hpre hR h3 h4 h5 h6 h7⟩
        rw [putAll_put l xs a0 i o v hd ho (by rw [hmd.len]; exact hin)]
        by_cases hall : ∀ j, j < n → (j = i ∨ L j)
        · refine .inr ⟨n, Nat.le_refl _, ?_, ?_⟩
          · funext j
            exact propext ⟨hmd'.lt j, hall j⟩
          · have he : (fun j => j = i ∨ L j) = fun j => j < n := by
              funext j
              exact propext ⟨hmd'.lt j, hall j⟩
            rw [he] at hmd'
            exact hend _ _ _ _ hmd'
        · exact .inl ⟨_, _, _, rfl, hmd', hall⟩
      · exact absurd (fun j hj => hahead (by omega) hmd.closed j (by omega)) hno
    · have hti : i = t := by
        have h1 : t ≤ i := Nat.le_of_not_lt hni
        rcases Nat.lt_or_ge t i with h2 | h2
        · have h3 := hahead (by omega) (fun j hj d hdj => by
            obtain ⟨q, hq⟩ : ∃ q, l[j]? = some q := ⟨_, List.getElem?_eq_getElem (by omega)⟩
            obtain ⟨e, e1, e2, rfl⟩ := deps_binds hq hdj
            have := back_spec hb (by simpa using hq) e e1 e2
            omega) t h2
          omega
        · omega
      subst hti
      have hdr : l.drop i = o :: l.drop (i + 1) := by
        rw [List.drop_eq_getElem_cons hil]
        congr 1
        obtain ⟨_, h2⟩ := List.getElem?_eq_some_iff.1 ho
        exact h2
      rw [hdr] at hwp
      have hset : (fun j => j = i ∨ j < i) = fun j => j < i + 1 := by
        funext j
        apply propext
        omega
      unfold wpOp
      rw [hoa]
      dsimp only
      unfold wpList at hwp
      split
      · rename_i hw
        rw [if_pos hw] at hwp
        rcases hwp with hwp | hwp
        · refine .inl (wp_weaken (fun a' w' hK => ?_) (fun _ _ _ h => h) (fun h => h) hwp)
          exact .inr ⟨i + 1, by omega, hset, hK⟩
        · exact .inr hwp
      · rename_i hw
        rw [if_neg hw] at hwp
        exact .inr ⟨i + 1, by omega, hset, hwp⟩
  · rintro L a w hall hcase
    rcases hcase with ⟨xs, lo, hi, rfl, hmd, hno⟩ | ⟨t, hnt, rfl, hwp⟩
    · exact absurd (fun j hj => hall j (by omega)) hno
    · have h1 : l.drop t = [] := by
        rw [List.drop_eq_nil_iff]
        rcases Nat.lt_or_ge t l.length with h2 | h2
        · have := hall t h2
          omega
        · exact h2
      rw [h1] at hwp
      exact hwp

theorem sstep_run {o : Oper} {a : Act} {w w' : World} {i k : Nat} (his : i ≠ s) (v : Value) (hrun : (execOp a.eval o).run P w = .ok (.value v) w') (hbel : Below w.heap.size w w')
    (hr : (R (L s) i).p v ((deps l i).map fun d => xs.getD d undef) w.heap.size w'.heap.size w') : o.wp P a w (fun a' w' => ∃ v, a' = a.put o.dst v ∧ PostS R s k l w0 L xs lo hi w i v w') (fun _ _ _ => False) :=
  opv_run hrun ⟨v, rfl, .inl ⟨his, hbel, hr⟩⟩
theorem sstep_pure {o : Oper} {a : Act} {w : World} {i k : Nat} (his : i ≠ s) (v : Value) (hrun : (execOp a.eval o).run P w = .ok (.value v) w)
    (hr : (R (L s) i).p v ((deps l i).map fun d => xs.getD d undef) w.heap.size w.heap.size w) : o.wp P a w (fun a' w' => ∃ v, a' = a.put o.dst v ∧ PostS R s k l w0 L xs lo hi w i v w') (fun _ _ _ => False) :=
  sstep_run his v hrun (Below.refl _ _) hr
theorem sstep_new {o : Oper} {a : Act} {w : World} {i k : Nat} (his : i ≠ s) (v : Value) (x : Obj) (hrun : (execOp a.eval o).run P w = .ok (.value v) (w.alloc x))
    (hr : (R (L s) i).p v ((deps l i).map fun d => xs.getD d undef) w.heap.size (w.alloc x).heap.size (w.alloc x)) : o.wp P a w (fun a' w' => ∃ v, a' = a.put o.dst v ∧ PostS R s k l w0 L xs lo hi w i v w') (fun _ _ _ => False) :=
  sstep_run his v hrun ((Below.refl _ _).alloc (Nat.le_refl _) _) hr
theorem sstep_call {o : Oper} {a : Act} {w : World} {i k : Nat} (his : i ≠ s) {f : FuncId} {args : Array Value} {E : Ending → World → Prop} (hc : Calls P f args w E) (hrun : (execOp a.eval o).run P w = .ok (.enter f args) w)
    (hK : ∀ e w', E e w' → ∃ v, e = .returned v ∧ Below w.heap.size w w' ∧ (R (L s) i).p v ((deps l i).map fun d => xs.getD d undef) w.heap.size w'.heap.size w') : o.wp P a w (fun a' w' => ∃ v, a' = a.put o.dst v ∧ PostS R s k l w0 L xs lo hi w i v w') (fun _ _ _ => False) :=
  op_call hrun hc fun e w' hE => let ⟨v, he, hb, hp⟩ := hK e w' hE; ⟨v, he, v, rfl, .inl ⟨his, hb, hp⟩⟩
/-- The store: of a whole row into a block that operation k made. -/
theorem sstep_row {o : Oper} {a : Act} {w : World} {k : Nat} (ty : TypeId) (x y : Operand) (t : TypeId) (old cells : Array Value) (g : Nat) (hR1 : R (L s) k = SFact.made (L s) (.cells old t (0, 0))) (hR2 : R True k = SFact.made True (.cells old t (0, 0))) (hR3 : R True s = SFact.stored t)
    (hmd : MadeS R s l n w0 L xs lo hi w) (hni : ¬ L s) (hk : L k) (ho : o.op = .store ty x y) (hxk : xs.getD k undef = .pointer (some ⟨g, 0, none⟩)) (hx : a.eval x = .pointer (some ⟨g, 0, none⟩)) (hy : a.eval y = .agg cells)
    (hi0 : (P.info? ty).map (·.size) = some cells.size) (hold : old.size = cells.size) (h1 : cells.all (·.oneCell') = true)
    (hd0 : ((deps l s).map fun d => xs.getD d undef).getD 0 undef = .pointer (some ⟨g, 0, none⟩)) (hd1 : ((deps l s).map fun d => xs.getD d undef).getD 1 undef = .agg cells) :
    o.wp P a w (fun a' w' => ∃ v, a' = a.put o.dst v ∧ PostS R s k l w0 L xs lo hi w s v w') (fun _ _ _ => False) := by
  have hlo := hmd.lohi k hk
  have hrel := hmd.rel k hk
  rw [hR1] at hrel
  obtain ⟨b, hb1, hb2, hb3⟩ := hrel
  obtain ⟨hb4, hb5⟩ := hb3 hni
  rw [hxk] at hb2
  obtain rfl : g = b := by injection hb2 with e; injection e with e; injection e
  refine Go.wp_store_row ty x y ho g cells hx hy t old hb5 hi0 hold h1 ⟨undef, rfl, .inr ⟨rfl, hk, ?_, by simp [World.setRow], fun b hb => setRow_other w g b _ (fun e => hb (e ▸ ⟨hb1, hb4⟩)), ?_, ?_⟩⟩
  · exact ⟨hmd.bel.os, hmd.bel.tape, hmd.bel.output, by have := hmd.bel.size; simpa [World.setRow] using this, fun b hb => (setRow_other w g b _ (by omega)).trans (hmd.bel.block b hb)⟩
  · rw [hR3]
    exact ⟨g, cells, hb1, hb4, hd0, hd1, setRow_heap w g _ cells _ _ hb5⟩
  · rw [hR2]
    exact ⟨g, hb1, hxk, fun h => absurd trivial h⟩
end
end Go.Proofs.Ytmakghcoehkphaa
end

section
/-
  ChildSizes: the walk. Conditions: the numbers are ones of their kinds.
-/
namespace Go.Proofs.Ytmakghcoehkphaa
open Go.RowKit Go.BigFrame
set_option linter.unusedVariables false
set_option linter.unusedSimpArgs false

/-- A transaction and an error, the transaction in the blocks from lo to hi. -/
def TxRes (t : PTx) (c : Int) (v : Value) (lo hi : Nat) (w : World) : Prop := ∃ u, v = .tuple #[u, .int .i64 c] ∧ ∀ w' : World, (∀ b, lo ≤ b → b < hi → w'.heap[b]? = w.heap[b]?) → TxAt w' u t
theorem TxRes.mono {t : PTx} {c : Int} {v : Value} {lo hi : Nat} {w w' : World} (hk : ∀ b, lo ≤ b → b < hi → w'.heap[b]? = w.heap[b]?) (h : TxRes t c v lo hi w) : TxRes t c v lo hi w' := by
  obtain ⟨u, h1, h2⟩ := h
  exact ⟨u, h1, fun w2 hw2 => h2 w2 fun b h3 h4 => (hw2 b h3 h4).trans (hk b h3 h4)⟩
theorem TxRes.elim {t : PTx} {c : Int} {v : Value} {lo hi : Nat} {w : World} (h : TxRes t c v lo hi w) {G : Prop} (k : ∀ u, v = .tuple #[u, .int .i64 c] → (∀ w' : World, (∀ b, lo ≤ b → b < hi → w'.heap[b]? = w.heap[b]?) → TxAt w' u t) → G) : G := let ⟨u, h1, h2⟩ := h; k u h1 h2
theorem TxAt.shape {w : World} {v : Value} {t : PTx} (h : TxAt w v t) : ∃ i1 i2 o1 o2, v = .agg #[.int .u32 t.ver, .slice i1 t.ins.length i2, .slice o1 t.outs.length o2, .int .u32 t.lock] := by
  obtain ⟨va, vo, rfl, hia, hoa, -, -⟩ := h
  obtain ⟨i1, i2, rfl, -, -⟩ := hia.shape
  obtain ⟨o1, o2, rfl, -, -⟩ := hoa.shape
  exact ⟨_, _, _, _, rfl⟩
theorem TxAt.outs4 {w : World} {a b c d : Value} {t : PTx} (h : TxAt w (.agg #[a, b, c, d]) t) : SlAt rpOut w c t.outs := by
  obtain ⟨va, vo, e, -, h2, -, -⟩ := h
  injection e with e
  have e2 : c = vo := by
    have := congrArg (fun x : Array Value => x[2]?) e
    simpa using this
  rw [e2]
  exact h2
def SFact.txres (t : PTx) (c : Int) : SFact := ⟨fun v _ lo hi w => TxRes t c v lo hi w, TxRes.mono⟩
def fstV (v : Value) : Value := match v with | .tuple cs => cs.getD 0 undef | _ => undef
/-- What is known of each operation's value while the child is built. -/
def RC6 (X : Nat) (cl : Value) (sp : ByteArray) (pi : Nat) (vv : Int) (tag : Nat) (fe : Int) (t : PTx) (c : Int) : Prop → Nat → SFact
  | _, 0 => .val fun _ => cl
  | _, 1 => .val fun _ => .agg #[.string sp, .int .u32 pi]
  | _, 2 => .val fun _ => .int .i64 vv
  | _, 3 => .val fun _ => .pointer (some ⟨X, 11, none⟩)
  | _, 4 => .val fun _ => .int .u16 tag
  | _, 5 => .val fun _ => .string (scrT tag)
  | _, 6 => .val fun _ => .agg #[.int .i64 vv, .string (scrT tag)]
  | _, 7 => .val fun _ => .agg #[.int .i64 vv, .string (scrT tag), .int .i64 0]
  | _, 8 => .val fun _ => .agg #[.string sp, .int .u32 pi, .int .i64 vv, .string (scrT tag), .int .i64 0]
  | _, 9 => .val fun _ => .pointer (some ⟨X, 11, none⟩)
  | _, 10 => .val fun _ => .int .u16 tag
  | _, 11 => .val fun _ => .int .i64 fe
  | _, 12 => .txres t c
  | _, 13 => .val fun d => d.getD 0 undef
  | _, 14 => .val fun d => fstV (d.getD 0 undef)
  | _, 15 => .val fun _ => .int .i64 c
  | p, 16 => .made p (.cells #[.int .u32 0, .slice none 0 0, .slice none 0 0, .int .u32 0] 43 (0, 0))
  | _, 17 => .stored 43
  | _, _ => .any
theorem child_ok {a : PCl} {cid : ByteArray} {ci : Nat} {cv : Int} {tag : Nat} {fee : Int} {t : PTx} (h : childOf a cid ci cv tag fee = (t, 0)) : t = childTx a cid ci tag (a.val + cv - fee) ∧ checkOf t = 0 ∧ tag ≠ 0 ∧ 0 ≤ a.br ∧ a.br < 3 := by
  unfold childOf at h
  split at h
  · cases h
  · rename_i h1
    split at h
    · cases h
    · split at h
      · cases h
      · split at h
        · cases h
        · split at h
          · rename_i h5
            have := congrArg Prod.snd h
            exact absurd this h5
          · rename_i h5
            have := congrArg Prod.fst h
            have h6 : childTx a cid ci tag (a.val + cv - fee) = t := this
            subst h6
            refine ⟨rfl, ?_, ?_, ?_, ?_⟩
            · exact Classical.not_not.1 h5
            all_goals omega
/-! ### the locks -/
def three (b : PBr) : List PBr := [b, b, b]
theorem three_ok {b : PBr} (h : b.height = 0) : lockPut (three b) = (leB 3 1 ++ (three b).flatMap putBr, 0) := lockPut_ok (by simp [three]) (by simp [three, tooHigh, h])
theorem sz_open0 {a : PCl} {cid : ByteArray} {ci tag : Nat} {v : Int} (hbr : 0 ≤ a.br ∧ a.br < 3) (ht : tag < 65536) (hl : a.lock.tag = tag) (hd : a.lock.delay < 65536) (hh : a.lock.height = 0) : openOf ⟨(lockPut (three a.lock)).1.toArray⟩ (childTx a cid ci tag v) 0 = 0 := by
  have hp := three_ok hh
  have hg := lockGet_put (A := three a.lock) (fun x hx => by
    have : x = a.lock := by simpa [three] using hx
    subst this
    exact ⟨by omega, hd, by omega⟩) hp
  rw [hp]
  have hb : (three a.lock)[a.br.toNat]? = some a.lock := by
    obtain h | h | h : a.br.toNat = 0 ∨ a.br.toNat = 1 ∨ a.br.toNat = 2 := by omega
    all_goals rw [h]; rfl
  refine open_child (t := childTx a cid ci tag v) (k := 0) (x := ⟨a.id, a.idx, seqOf a.lock.delay, [signW a.br.toNat tag]⟩) (n := a.br.toNat) (tag := tag) _ rfl rfl (by omega) ht hg hb hl hh ?_
  have hw : waitsOf (childTx a cid ci tag v) 0 = if seqOf a.lock.delay < 2147483648 ∧ 2 ≤ 2 then seqOf a.lock.delay % 65536 else 0 := by first | rfl | simp [waitsOf, childTx]
  rw [hw]
  unfold seqOf
  by_cases h0 : 0 < a.lock.delay
  · rw [if_pos h0, if_pos (by omega)]; omega
  · omega
theorem sz_open1 {a : PCl} {cid : ByteArray} {ci tag : Nat} {v : Int} (ht : tag < 65536) : openOf (scrT tag) (childTx a cid ci tag v) 1 = 0 := by
  have hg := lockGet_put (A := [⟨tag, 0, 0⟩]) (fun x hx => by
    have : x = ⟨tag, 0, 0⟩ := by simpa using hx
    subst this
    exact ⟨ht, by show 0 < 65536; omega, by show 0 < 4294967296; omega⟩) (lockPut_one tag)
  exact open_child (t := childTx a cid ci tag v) (k := 1) (x := ⟨cid, ci, 4294967293, [signW 0 tag]⟩) (n := 0) (tag := tag) (br := ⟨tag, 0, 0⟩) _ rfl rfl (by omega) ht hg rfl rfl rfl (Nat.zero_le _)
theorem three_len {b : PBr} (h : b.height = 0) : ∃ l : List UInt8, lockPut (three b) = (l, 0) ∧ l.length = 25 := ⟨_, three_ok h, by rw [List.length_append, putBrs_len, leB_length]; rfl⟩
theorem sl_three (w : World) (b : PBr) (hb : b.Ok) : SlAt rpBr (w.alloc (.cells #[.int .u16 b.tag, .int .u16 b.delay, .int .u32 b.height, .int .u16 b.tag, .int .u16 b.delay, .int .u32 b.height, .int .u16 b.tag, .int .u16 b.delay, .int .u32 b.height] 27)) (.slice (some ⟨w.heap.size, 0, none⟩) 3 3) (three b) := by
  refine ⟨_, 3, rfl, Nat.le_refl _, by decide, fun i x hi => ?_⟩
  have hx : x = b := by
    have := List.mem_of_getElem? hi
    simpa [three] using this
  subst hx
  have hil : i < 3 := (List.getElem?_eq_some_iff.1 hi).1
  refine ⟨_, 0, [.int .u16 x.tag, .int .u16 x.delay, .int .u32 x.height], rfl, rfl, fun j u hj => ?_, rfl, hb⟩
  rw [cell_at (heap_alloc_new w _)]
  have hjl : j < 3 := (List.getElem?_eq_some_iff.1 hj).1
  obtain rfl | rfl | rfl : i = 0 ∨ i = 1 ∨ i = 2 := by omega
  all_goals
    obtain rfl | rfl | rfl : j = 0 ∨ j = 1 ∨ j = 2 := by omega
    all_goals exact hj
set_option maxRecDepth 100000 in
set_option maxHeartbeats 4000000 in
theorem childSizes_walk (v : Value) (z : PRaw) (w : World) (hv : v = .agg (rawCells z) ∧ z.Ok) : Calls Try.prog 6 #[v] w (BIs true w) := by
  obtain ⟨rfl, hok⟩ := hv
  have HOF := Lib.hid (fun y => of_any z y)
  have HOK := Lib.hid hok
  unfold rawCells at HOF ⊢
  unfold clV at HOF
  rw [show (ofA z).idx = z.a.idx from rfl, show (ofA z).val = z.a.val from rfl, show (ofA z).br = z.a.br from rfl, show (ofA z).lock = z.a.lock from rfl, show (ofA z).dead = z.a.dead from rfl] at HOF
  obtain ⟨sa, hsa⟩ : ∃ s, s = (ofA z).id := ⟨_, rfl⟩
  obtain ⟨sp, hsp⟩ : ∃ s, s = ofP z := ⟨_, rfl⟩
  rw [← hsa, ← hsp] at HOF
  have HSA := Lib.hid hsa
  have HSP := Lib.hid hsp
  clear hsa hsp hok
  go_enter Try.func6, Try.ntmps6
  go_upto_region 1 with fail
  have hz := heap_alloc_new w (.cells #[.string z.a.id, .int .u32 z.a.idx, .int .i64 z.a.val, .int .i64 z.a.br, .int .u16 z.a.lock.tag, .int .u16 z.a.lock.delay, .int .u32 z.a.lock.height, .int .i64 z.a.dead, .string z.pid, .int .u32 z.pidx, .int .i64 z.val, .int .u16 z.tag, .int .i64 z.fee, .bool z.odd] 31)
  have hal : Below w.heap.size w (w.alloc (.cells #[.string z.a.id, .int .u32 z.a.idx, .int .i64 z.a.val, .int .i64 z.a.br, .int .u16 z.a.lock.tag, .int .u16 z.a.lock.delay, .int .u32 z.a.lock.height, .int .i64 z.a.dead, .string z.pid, .int .u32 z.pidx, .int .i64 z.val, .int .u16 z.tag, .int .i64 z.fee, .bool z.odd] 31)) := (Below.refl _ _).alloc (Nat.le_refl _) _
  obtain ⟨X, hX⟩ : ∃ q, q = w.heap.size := ⟨_, rfl⟩
  rw [← hX] at hz ⊢
  generalize w.alloc (.cells #[.string z.a.id, .int .u32 z.a.idx, .int .i64 z.a.val, .int .i64 z.a.br, .int .u16 z.a.lock.tag, .int .u16 z.a.lock.delay, .int .u32 z.a.lock.height, .int .i64 z.a.dead, .string z.pid, .int .u32 z.pidx, .int .i64 z.val, .int .u16 z.tag, .int .i64 z.fee, .bool z.odd] 31) = w0 at *
  have HZ0 := Lib.hid hz
  have HB0 := Lib.hid hal
  have hX1 : w.heap.size ≤ X := by omega
  clear hz hal hX
  have z0 : w0.cell? ⟨X, 0, none⟩ = some (.string z.a.id) := cell_at HZ0.out
  have z1 : w0.cell? ⟨X, 1, none⟩ = some (.int .u32 z.a.idx) := cell_at HZ0.out
  have z2 : w0.cell? ⟨X, 2, none⟩ = some (.int .i64 z.a.val) := cell_at HZ0.out
  have z3 : w0.cell? ⟨X, 3, none⟩ = some (.int .i64 z.a.br) := cell_at HZ0.out
  have z4 : w0.cell? ⟨X, 4, none⟩ = some (.int .u16 z.a.lock.tag) := cell_at HZ0.out
  have z5 : w0.cell? ⟨X, 5, none⟩ = some (.int .u16 z.a.lock.delay) := cell_at HZ0.out
  have z6 : w0.cell? ⟨X, 6, none⟩ = some (.int .u32 z.a.lock.height) := cell_at HZ0.out
  have z7 : w0.cell? ⟨X, 7, none⟩ = some (.int .i64 z.a.dead) := cell_at HZ0.out
  have z8 : w0.cell? ⟨X, 8, none⟩ = some (.string z.pid) := cell_at HZ0.out
  have z9 : w0.cell? ⟨X, 9, none⟩ = some (.int .u32 z.pidx) := cell_at HZ0.out
  have z10 : w0.cell? ⟨X, 10, none⟩ = some (.int .i64 z.val) := cell_at HZ0.out
  have z11 : w0.cell? ⟨X, 11, none⟩ = some (.int .u16 z.tag) := cell_at HZ0.out
  have z12 : w0.cell? ⟨X, 12, none⟩ = some (.int .i64 z.fee) := cell_at HZ0.out
  have z13 : w0.cell? ⟨X, 13, none⟩ = some (.bool z.odd) := cell_at HZ0.out
  go_wp2_with fail
  refine (HOF.out w0).mono ?_
  rintro e w1 ⟨rfl, hb⟩
  have HB1 := Lib.hid (HB0.out.trans (hb.mono HB0.out.size))
  have HZ0 := Lib.hid (stay HZ0.out hb)
  have hl1 := lt_of HZ0.out
  clear hb HB0 z0 z1 z2 z3 z4 z5 z6 z7 z8 z9 z10 z11 z12 z13
  go_upto_region 2 with fail
  obtain ⟨P, hP⟩ : ∃ q, q = w1.heap.size := ⟨_, rfl⟩
  have hnews := new2 w1 P hP (.cells #[.string sa, .int .u32 z.a.idx, .int .i64 z.a.val, .int .i64 z.a.br, .int .u16 z.a.lock.tag, .int .u16 z.a.lock.delay, .int .u32 z.a.lock.height, .int .i64 z.a.dead] 29) (.cells #[.string sp, .int .u32 z.pidx] 24)
  rw [← hP]
  generalize ((w1.alloc (.cells #[.string sa, .int .u32 z.a.idx, .int .i64 z.a.val, .int .i64 z.a.br, .int .u16 z.a.lock.tag, .int .u16 z.a.lock.delay, .int .u32 z.a.lock.height, .int .i64 z.a.dead] 29)).alloc (.cells #[.string sp, .int .u32 z.pidx] 24)) = w2 at *
  obtain ⟨hz0, hz1, hal⟩ := hnews
  have hXP : X < P := by omega
  have hPX : w.heap.size ≤ P := by omega
  have HB2 := Lib.hid (HB1.out.trans (hal.mono HB1.out.size))
  have HZ0 := Lib.hid (stay HZ0.out hal)
  have HP := Lib.hid hz0
  have HQ := Lib.hid hz1
  clear hz0 hz1 hal hP HB1
  have p2 : w2.cell? ⟨P, 2, none⟩ = some (.int .i64 z.a.val) := cell_at HP.out
  have p3 : w2.cell? ⟨P, 3, none⟩ = some (.int .i64 z.a.br) := cell_at HP.out
  have p4 : w2.cell? ⟨P, 4, none⟩ = some (.int .u16 z.a.lock.tag) := cell_at HP.out
  have p5 : w2.cell? ⟨P, 5, none⟩ = some (.int .u16 z.a.lock.delay) := cell_at HP.out
  have p6 : w2.cell? ⟨P, 6, none⟩ = some (.int .u32 z.a.lock.height) := cell_at HP.out
  have f2 : w2.frozen? ⟨P, 2, none⟩ = false := free_at HP.out
  have f3 : w2.frozen? ⟨P, 3, none⟩ = false := free_at HP.out
  have f4 : w2.frozen? ⟨P, 4, none⟩ = false := free_at HP.out
  have f5 : w2.frozen? ⟨P, 5, none⟩ = false := free_at HP.out
  have f6 : w2.frozen? ⟨P, 6, none⟩ = false := free_at HP.out
  have z11 : w2.cell? ⟨X, 11, none⟩ = some (.int .u16 z.tag) := cell_at HZ0.out
  have hm1 : 0 ≤ max 0 z.a.val % 1000000 ∧ max 0 z.a.val % 1000000 < 1000000 := by omega
  have hm2 : 0 ≤ max 0 z.a.br % 3 ∧ max 0 z.a.br % 3 < 3 := by omega
  have HM1 := Lib.hid hm1
  have HM2 := Lib.hid hm2
  clear hm1 hm2
  obtain ⟨va, hva⟩ : ∃ v, v = max 0 z.a.val % 1000000 := ⟨_, rfl⟩
  obtain ⟨br, hbr⟩ : ∃ v, v = max 0 z.a.br % 3 := ⟨_, rfl⟩
  rw [← hva] at HM1
  rw [← hbr] at HM2
  have HVA := Lib.hid hva
  have HBR := Lib.hid hbr
  clear hva hbr
  go_cut [] (fun wx => Below w.heap.size w wx ∧ (∀ b, b ≠ P → wx.heap[b]? = w2.heap[b]?) ∧ wx.heap[P]? = some (.cells #[.string sa, .int .u32 z.a.idx, .int .i64 va, .int .i64 br, .int .u16 z.tag, .int .u16 z.a.lock.delay, .int .u32 0, .int .i64 z.a.dead] 29 (0, 0)))
  case first =>
    go_region
    go_wp2_with fail
    go_meet
    rw [← HVA.out, ← HBR.out]
    have g0 := heap_setCell_at (j := 2) (u := .int .i64 va) HP.out
    have g1 := heap_setCell_at (j := 3) (u := .int .i64 br) g0
    have g2 := heap_setCell_at (j := 4) (u := .int .u16 z.tag) g1
    have g3 := heap_setCell_at (j := 5) (u := .int .u16 z.a.lock.delay) g2
    have g4 := heap_setCell_at (j := 6) (u := .int .u32 0) g3
    exact ⟨(((((HB2.out.setCell (p := ⟨P, 2, none⟩) hPX _).setCell (p := ⟨P, 3, none⟩) hPX _).setCell (p := ⟨P, 4, none⟩) hPX _).setCell (p := ⟨P, 5, none⟩) hPX _).setCell (p := ⟨P, 6, none⟩) hPX _).drew, fun b hb => ((((Below.heap_setCell _ _ _ _ hb).trans (Below.heap_setCell _ _ _ _ hb)).trans (Below.heap_setCell _ _ _ _ hb)).trans (Below.heap_setCell _ _ _ _ hb)).trans (Below.heap_setCell _ _ _ _ hb), g4⟩
  case rest =>
    rename World => w3
    obtain ⟨hB, hO, hP⟩ := hcut
    have HB3 := Lib.hid hB
    have HZ0 := Lib.hid ((hO X (by omega)).trans HZ0.out)
    have HQ := Lib.hid ((hO (P + 1) (by omega)).trans HQ.out)
    have HP := Lib.hid hP
    clear hB hO hP z11 p2 p3 p4 p5 p6 f2 f3 f4 f5 f6 HB2
    have z10 : w3.cell? ⟨X, 10, none⟩ = some (.int .i64 z.val) := cell_at HZ0.out
    have z12 : w3.cell? ⟨X, 12, none⟩ = some (.int .i64 z.fee) := cell_at HZ0.out
    have hm1 : 0 ≤ max 0 z.val % 1000000 ∧ max 0 z.val % 1000000 < 1000000 := by omega
    have hm2 : 0 ≤ max 0 z.fee % 2000000 ∧ max 0 z.fee % 2000000 < 2000000 := by omega
    have HM3 := Lib.hid hm1
    have HM4 := Lib.hid hm2
    clear hm1 hm2
    obtain ⟨vv, hvv⟩ : ∃ v, v = max 0 z.val % 1000000 := ⟨_, rfl⟩
    obtain ⟨fe, hfe⟩ : ∃ v, v = max 0 z.fee % 2000000 := ⟨_, rfl⟩
    rw [← hvv] at HM3
    rw [← hfe] at HM4
    have HVV := Lib.hid hvv
    have HFE := Lib.hid hfe
    clear hvv hfe
    go_upto_region 3 with fail
    go_cut [5, 6] (fun s5 s6 wx => s5 = .int .i64 vv ∧ s6 = .int .i64 fe ∧ Below w3.heap.size w3 wx)
    case first =>
      go_region
      all_goals
        go_wp2_with fail
        go_meet
        exact ⟨by rw [HVV.out], by rw [HFE.out], (Below.refl _ _).drew⟩
    case rest =>
      rename World => w4
      obtain ⟨rfl, rfl, hb⟩ := hcut
      have HB4 := Lib.hid (HB3.out.trans (hb.mono HB3.out.size))
      have HZ0 := Lib.hid (stay HZ0.out hb)
      have HQ := Lib.hid (stay HQ.out hb)
      have HP := Lib.hid (stay HP.out hb)
      clear hb HB3 z10 z12
      go_upto_region 4 with fail
      obtain ⟨zz, hzz⟩ : ∃ zz, zz = childOf ⟨sa, z.a.idx, va, br, ⟨z.tag, z.a.lock.delay, 0⟩, z.a.dead⟩ sp z.pidx vv z.tag fe := ⟨_, rfl⟩
      have hsal : sa.size ≤ maxLen := by rw [HSA.out]; exact ofA_len HOK.out
      have hspl : sp.size ≤ maxLen := by rw [HSP.out]; exact ofP_len HOK.out
      have hk1 := HM1.out
      have hk2 := HM2.out
      have htg := HOK.out.tag
      have HBD := Lib.hid (fun y => cbuild_any ⟨sa, z.a.idx, va, br, ⟨z.tag, z.a.lock.delay, 0⟩, z.a.dead⟩ sp z.pidx vv (scrT z.tag) 0 z.tag fe ⟨hsal, HOK.out.a.idx, by dsimp only; omega, by dsimp only; omega, ⟨htg, HOK.out.a.lock.delay, by show 0 < 4294967296; omega⟩, HOK.out.a.dead⟩ hspl HOK.out.pidx htg y)
      unfold clV enV at HBD
      rw [← hzz] at HBD
      obtain ⟨t, c⟩ := zz
      have HZZ := Lib.hid hzz.symm
      clear hzz hsal hspl hk1 hk2
      have p0 : w4.cell? ⟨P, 0, none⟩ = some (.string sa) := cell_at HP.out
      have p1 : w4.cell? ⟨P, 1, none⟩ = some (.int .u32 z.a.idx) := cell_at HP.out
      have p2 : w4.cell? ⟨P, 2, none⟩ = some (.int .i64 va) := cell_at HP.out
      have p3 : w4.cell? ⟨P, 3, none⟩ = some (.int .i64 br) := cell_at HP.out
      have p4 : w4.cell? ⟨P, 4, none⟩ = some (.int .u16 z.tag) := cell_at HP.out
      have p5 : w4.cell? ⟨P, 5, none⟩ = some (.int .u16 z.a.lock.delay) := cell_at HP.out
      have p6 : w4.cell? ⟨P, 6, none⟩ = some (.int .u32 0) := cell_at HP.out
      have p7 : w4.cell? ⟨P, 7, none⟩ = some (.int .i64 z.a.dead) := cell_at HP.out
      have q0 : w4.cell? ⟨P + 1, 0, none⟩ = some (.string sp) := cell_at HQ.out
      have q1 : w4.cell? ⟨P + 1, 1, none⟩ = some (.int .u32 z.pidx) := cell_at HQ.out
      have z11 : w4.cell? ⟨X, 11, none⟩ = some (.int .u16 z.tag) := cell_at HZ0.out
      refine wp_region_stored (RC6 X (.agg #[.string sa, .int .u32 z.a.idx, .int .i64 va, .int .i64 br, .int .u16 z.tag, .int .u16 z.a.lock.delay, .int .u32 (0 : Nat), .int .i64 z.a.dead]) sp z.pidx vv z.tag fe t c) 18 17 16 (by kernel_rfl) (by kernel_rfl) (by kernel_rfl) (by kernel_rfl) (by decide) (by kernel_rfl) (by decide) (by intro j hj v d lo hi w h; match j, hj, h with | 0, hj, h => exact h | 1, hj, h => exact h | 2, hj, h => exact h | 3, hj, h => exact h | 4, hj, h => exact h | 5, hj, h => exact h | 6, hj, h => exact h | 7, hj, h => exact h | 8, hj, h => exact h | 9, hj, h => exact h | 10, hj, h => exact h | 11, hj, h => exact h | 12, hj, h => exact h | 13, hj, h => exact h | 14, hj, h => exact h | 15, hj, h => exact h | 16, hj, h => exact absurd rfl hj | 17, hj, h => exact h | q + 18, hj, h => exact h) ?_ ?_
      · intro i o hi ho L xs lo hi' wr hmd hni hpre
        obtain ⟨x0, x1, x2, x3, x4, x5, x6, x7, x8, x9, x10, x11, x12, x13, x14, x15, x16, x17, rfl⟩ : ∃ x0 x1 x2 x3 x4 x5 x6 x7 x8 x9 x10 x11 x12 x13 x14 x15 x16 x17, xs = [x0, x1, x2, x3, x4, x5, x6, x7, x8, x9, x10, x11, x12, x13, x14, x15, x16, x17] := by match xs, hmd.len with | [x0, x1, x2, x3, x4, x5, x6, x7, x8, x9, x10, x11, x12, x13, x14, x15, x16, x17], _ => exact ⟨_, _, _, _, _, _, _, _, _, _, _, _, _, _, _, _, _, _, rfl⟩
        match i, ho with
        | 0, ho =>
          obtain rfl := Option.some.inj ho
          have t0 := below_cells hmd.bel _ _ p0
          have t1 := below_cells hmd.bel _ _ p1
          have t2 := below_cells hmd.bel _ _ p2
          have t3 := below_cells hmd.bel _ _ p3
          have t4 := below_cells hmd.bel _ _ p4
          have t5 := below_cells hmd.bel _ _ p5
          have t6 := below_cells hmd.bel _ _ p6
          have t7 := below_cells hmd.bel _ _ p7
          have kk := fun lx ox ax => sstep_pure (P := Try.prog) (R := RC6 X (.agg #[.string sa, .int .u32 z.a.idx, .int .i64 va, .int .i64 br, .int .u16 z.tag, .int .u16 z.a.lock.delay, .int .u32 (0 : Nat), .int .i64 z.a.dead]) sp z.pidx vv z.tag fe t c) (s := 17) (l := lx) (w0 := w4) (L := L) (xs := [x0, x1, x2, x3, x4, x5, x6, x7, x8, x9, x10, x11, x12, x13, x14, x15, x16, x17]) (lo := lo) (hi := hi') (o := ox) (a := ax) (w := wr) (i := 0) (k := 16) (by decide) (.agg #[.string sa, .int .u32 z.a.idx, .int .i64 va, .int .i64 br, .int .u16 z.tag, .int .u16 z.a.lock.delay, .int .u32 (0 : Nat), .int .i64 z.a.dead])
          refine kk _ _ _ ?_ ?_
          · simp [putAll, execOp, go_sem, t0, t1, t2, t3, t4, t5, t6, t7]
          · exact rfl
        | 1, ho =>
          obtain rfl := Option.some.inj ho
          have t0 := below_cells hmd.bel _ _ q0
          have t1 := below_cells hmd.bel _ _ q1
          have kk := fun lx ox ax => sstep_pure (P := Try.prog) (R := RC6 X (.agg #[.string sa, .int .u32 z.a.idx, .int .i64 va, .int .i64 br, .int .u16 z.tag, .int .u16 z.a.lock.delay, .int .u32 (0 : Nat), .int .i64 z.a.dead]) sp z.pidx vv z.tag fe t c) (s := 17) (l := lx) (w0 := w4) (L := L) (xs := [x0, x1, x2, x3, x4, x5, x6, x7, x8, x9, x10, x11, x12, x13, x14, x15, x16, x17]) (lo := lo) (hi := hi') (o := ox) (a := ax) (w := wr) (i := 1) (k := 16) (by decide) (.agg #[.string sp, .int .u32 z.pidx])
          refine kk _ _ _ ?_ ?_
          · simp [putAll, execOp, go_sem, t0, t1]
          · exact rfl
        | 2, ho =>
          obtain rfl := Option.some.inj ho
          have kk := fun lx ox ax => sstep_pure (P := Try.prog) (R := RC6 X (.agg #[.string sa, .int .u32 z.a.idx, .int .i64 va, .int .i64 br, .int .u16 z.tag, .int .u16 z.a.lock.delay, .int .u32 (0 : Nat), .int .i64 z.a.dead]) sp z.pidx vv z.tag fe t c) (s := 17) (l := lx) (w0 := w4) (L := L) (xs := [x0, x1, x2, x3, x4, x5, x6, x7, x8, x9, x10, x11, x12, x13, x14, x15, x16, x17]) (lo := lo) (hi := hi') (o := ox) (a := ax) (w := wr) (i := 2) (k := 16) (by decide) (.int .i64 vv)
          refine kk _ _ _ ?_ ?_
          · kernel_rfl
          · exact rfl
        | 3, ho =>
          obtain rfl := Option.some.inj ho
          have kk := fun lx ox ax => sstep_pure (P := Try.prog) (R := RC6 X (.agg #[.string sa, .int .u32 z.a.idx, .int .i64 va, .int .i64 br, .int .u16 z.tag, .int .u16 z.a.lock.delay, .int .u32 (0 : Nat), .int .i64 z.a.dead]) sp z.pidx vv z.tag fe t c) (s := 17) (l := lx) (w0 := w4) (L := L) (xs := [x0, x1, x2, x3, x4, x5, x6, x7, x8, x9, x10, x11, x12, x13, x14, x15, x16, x17]) (lo := lo) (hi := hi') (o := ox) (a := ax) (w := wr) (i := 3) (k := 16) (by decide) (.pointer (some ⟨X, 11, none⟩))
          refine kk _ _ _ ?_ ?_
          · kernel_rfl
          · exact rfl
        | 4, ho =>
          obtain rfl := Option.some.inj ho
          have h_3 : x3 = .pointer (some ⟨X, 11, none⟩) := hmd.rel 3 (hpre 3 (by kernel_rfl))
          subst h_3
          have t0 := below_cells hmd.bel _ _ z11
          have kk := fun lx ox ax => sstep_pure (P := Try.prog) (R := RC6 X (.agg #[.string sa, .int .u32 z.a.idx, .int .i64 va, .int .i64 br, .int .u16 z.tag, .int .u16 z.a.lock.delay, .int .u32 (0 : Nat), .int .i64 z.a.dead]) sp z.pidx vv z.tag fe t c) (s := 17) (l := lx) (w0 := w4) (L := L) (xs := [x0, x1, x2, (.pointer (some ⟨X, 11, none⟩)), x4, x5, x6, x7, x8, x9, x10, x11, x12, x13, x14, x15, x16, x17]) (lo := lo) (hi := hi') (o := ox) (a := ax) (w := wr) (i := 4) (k := 16) (by decide) (.int .u16 z.tag)
          refine kk _ _ _ ?_ ?_
          · simp [putAll, execOp, go_sem, t0]
          · exact rfl
        | 5, ho =>
          obtain rfl := Option.some.inj ho
          have h_4 : x4 = .int .u16 z.tag := hmd.rel 4 (hpre 4 (by kernel_rfl))
          subst h_4
          have kk := fun lx ox ax => sstep_call (P := Try.prog) (R := RC6 X (.agg #[.string sa, .int .u32 z.a.idx, .int .i64 va, .int .i64 br, .int .u16 z.tag, .int .u16 z.a.lock.delay, .int .u32 (0 : Nat), .int .i64 z.a.dead]) sp z.pidx vv z.tag fe t c) (s := 17) (l := lx) (w0 := w4) (L := L) (xs := [x0, x1, x2, x3, (.int .u16 z.tag), x5, x6, x7, x8, x9, x10, x11, x12, x13, x14, x15, x16, x17]) (lo := lo) (hi := hi') (o := ox) (a := ax) (w := wr) (i := 5) (k := 16) (by decide) (rscript_any z.tag htg wr)
          refine kk _ _ _ ?_ ?_
          · kernel_rfl
          · exact fun e w' ⟨he, hb⟩ => ⟨_, he, hb, rfl⟩
        | 6, ho =>
          obtain rfl := Option.some.inj ho
          have h_2 : x2 = .int .i64 vv := hmd.rel 2 (hpre 2 (by kernel_rfl))
          subst h_2
          have h_5 : x5 = .string (scrT z.tag) := hmd.rel 5 (hpre 5 (by kernel_rfl))
          subst h_5
          have kk := fun lx ox ax => sstep_pure (P := Try.prog) (R := RC6 X (.agg #[.string sa, .int .u32 z.a.idx, .int .i64 va, .int .i64 br, .int .u16 z.tag, .int .u16 z.a.lock.delay, .int .u32 (0 : Nat), .int .i64 z.a.dead]) sp z.pidx vv z.tag fe t c) (s := 17) (l := lx) (w0 := w4) (L := L) (xs := [x0, x1, (.int .i64 vv), x3, x4, (.string (scrT z.tag)), x6, x7, x8, x9, x10, x11, x12, x13, x14, x15, x16, x17]) (lo := lo) (hi := hi') (o := ox) (a := ax) (w := wr) (i := 6) (k := 16) (by decide) (.agg #[.int .i64 vv, .string (scrT z.tag)])
          refine kk _ _ _ ?_ ?_
          · kernel_rfl
          · exact rfl
        | 7, ho =>
          obtain rfl := Option.some.inj ho
          have h_6 : x6 = .agg #[.int .i64 vv, .string (scrT z.tag)] := hmd.rel 6 (hpre 6 (by kernel_rfl))
          subst h_6
          have kk := fun lx ox ax => sstep_pure (P := Try.prog) (R := RC6 X (.agg #[.string sa, .int .u32 z.a.idx, .int .i64 va, .int .i64 br, .int .u16 z.tag, .int .u16 z.a.lock.delay, .int .u32 (0 : Nat), .int .i64 z.a.dead]) sp z.pidx vv z.tag fe t c) (s := 17) (l := lx) (w0 := w4) (L := L) (xs := [x0, x1, x2, x3, x4, x5, (.agg #[.int .i64 vv, .string (scrT z.tag)]), x7, x8, x9, x10, x11, x12, x13, x14, x15, x16, x17]) (lo := lo) (hi := hi') (o := ox) (a := ax) (w := wr) (i := 7) (k := 16) (by decide) (.agg #[.int .i64 vv, .string (scrT z.tag), .int .i64 0])
          refine kk _ _ _ ?_ ?_
          · kernel_rfl
          · exact rfl
        | 8, ho =>
          obtain rfl := Option.some.inj ho
          have h_1 : x1 = .agg #[.string sp, .int .u32 z.pidx] := hmd.rel 1 (hpre 1 (by kernel_rfl))
          subst h_1
          have h_7 : x7 = .agg #[.int .i64 vv, .string (scrT z.tag), .int .i64 0] := hmd.rel 7 (hpre 7 (by kernel_rfl))
          subst h_7
          have kk := fun lx ox ax => sstep_pure (P := Try.prog) (R := RC6 X (.agg #[.string sa, .int .u32 z.a.idx, .int .i64 va, .int .i64 br, .int .u16 z.tag, .int .u16 z.a.lock.delay, .int .u32 (0 : Nat), .int .i64 z.a.dead]) sp z.pidx vv z.tag fe t c) (s := 17) (l := lx) (w0 := w4) (L := L) (xs := [x0, (.agg #[.string sp, .int .u32 z.pidx]), x2, x3, x4, x5, x6, (.agg #[.int .i64 vv, .string (scrT z.tag), .int .i64 0]), x8, x9, x10, x11, x12, x13, x14, x15, x16, x17]) (lo := lo) (hi := hi') (o := ox) (a := ax) (w := wr) (i := 8) (k := 16) (by decide) (.agg #[.string sp, .int .u32 z.pidx, .int .i64 vv, .string (scrT z.tag), .int .i64 0])
          refine kk _ _ _ ?_ ?_
          · kernel_rfl
          · exact rfl
        | 9, ho =>
          obtain rfl := Option.some.inj ho
          have kk := fun lx ox ax => sstep_pure (P := Try.prog) (R := RC6 X (.agg #[.string sa, .int .u32 z.a.idx, .int .i64 va, .int .i64 br, .int .u16 z.tag, .int .u16 z.a.lock.delay, .int .u32 (0 : Nat), .int .i64 z.a.dead]) sp z.pidx vv z.tag fe t c) (s := 17) (l := lx) (w0 := w4) (L := L) (xs := [x0, x1, x2, x3, x4, x5, x6, x7, x8, x9, x10, x11, x12, x13, x14, x15, x16, x17]) (lo := lo) (hi := hi') (o := ox) (a := ax) (w := wr) (i := 9) (k := 16) (by decide) (.pointer (some ⟨X, 11, none⟩))
          refine kk _ _ _ ?_ ?_
          · kernel_rfl
          · exact rfl
        | 10, ho =>
          obtain rfl := Option.some.inj ho
          have h_9 : x9 = .pointer (some ⟨X, 11, none⟩) := hmd.rel 9 (hpre 9 (by kernel_rfl))
          subst h_9
          have t0 := below_cells hmd.bel _ _ z11
          have kk := fun lx ox ax => sstep_pure (P := Try.prog) (R := RC6 X (.agg #[.string sa, .int .u32 z.a.idx, .int .i64 va, .int .i64 br, .int .u16 z.tag, .int .u16 z.a.lock.delay, .int .u32 (0 : Nat), .int .i64 z.a.dead]) sp z.pidx vv z.tag fe t c) (s := 17) (l := lx) (w0 := w4) (L := L) (xs := [x0, x1, x2, x3, x4, x5, x6, x7, x8, (.pointer (some ⟨X, 11, none⟩)), x10, x11, x12, x13, x14, x15, x16, x17]) (lo := lo) (hi := hi') (o := ox) (a := ax) (w := wr) (i := 10) (k := 16) (by decide) (.int .u16 z.tag)
          refine kk _ _ _ ?_ ?_
          · simp [putAll, execOp, go_sem, t0]
          · exact rfl
        | 11, ho =>
          obtain rfl := Option.some.inj ho
          have kk := fun lx ox ax => sstep_pure (P := Try.prog) (R := RC6 X (.agg #[.string sa, .int .u32 z.a.idx, .int .i64 va, .int .i64 br, .int .u16 z.tag, .int .u16 z.a.lock.delay, .int .u32 (0 : Nat), .int .i64 z.a.dead]) sp z.pidx vv z.tag fe t c) (s := 17) (l := lx) (w0 := w4) (L := L) (xs := [x0, x1, x2, x3, x4, x5, x6, x7, x8, x9, x10, x11, x12, x13, x14, x15, x16, x17]) (lo := lo) (hi := hi') (o := ox) (a := ax) (w := wr) (i := 11) (k := 16) (by decide) (.int .i64 fe)
          refine kk _ _ _ ?_ ?_
          · kernel_rfl
          · exact rfl
        | 12, ho =>
          obtain rfl := Option.some.inj ho
          have h_0 : x0 = .agg #[.string sa, .int .u32 z.a.idx, .int .i64 va, .int .i64 br, .int .u16 z.tag, .int .u16 z.a.lock.delay, .int .u32 (0 : Nat), .int .i64 z.a.dead] := hmd.rel 0 (hpre 0 (by kernel_rfl))
          subst h_0
          have h_8 : x8 = .agg #[.string sp, .int .u32 z.pidx, .int .i64 vv, .string (scrT z.tag), .int .i64 0] := hmd.rel 8 (hpre 8 (by kernel_rfl))
          subst h_8
          have h_10 : x10 = .int .u16 z.tag := hmd.rel 10 (hpre 10 (by kernel_rfl))
          subst h_10
          have h_11 : x11 = .int .i64 fe := hmd.rel 11 (hpre 11 (by kernel_rfl))
          subst h_11
          have kk := fun lx ox ax => sstep_call (P := Try.prog) (R := RC6 X (.agg #[.string sa, .int .u32 z.a.idx, .int .i64 va, .int .i64 br, .int .u16 z.tag, .int .u16 z.a.lock.delay, .int .u32 (0 : Nat), .int .i64 z.a.dead]) sp z.pidx vv z.tag fe t c) (s := 17) (l := lx) (w0 := w4) (L := L) (xs := [(.agg #[.string sa, .int .u32 z.a.idx, .int .i64 va, .int .i64 br, .int .u16 z.tag, .int .u16 z.a.lock.delay, .int .u32 (0 : Nat), .int .i64 z.a.dead]), x1, x2, x3, x4, x5, x6, x7, (.agg #[.string sp, .int .u32 z.pidx, .int .i64 vv, .string (scrT z.tag), .int .i64 0]), x9, (.int .u16 z.tag), (.int .i64 fe), x12, x13, x14, x15, x16, x17]) (lo := lo) (hi := hi') (o := ox) (a := ax) (w := wr) (i := 12) (k := 16) (by decide) (HBD.out wr)
          refine kk _ _ _ ?_ ?_
          · kernel_rfl
          · exact fun e w' ⟨v, he, hn, hb⟩ => ⟨_, he, hb, v, rfl, hn⟩
        | 13, ho =>
          obtain rfl := Option.some.inj ho
          have r12 : TxRes t c x12 (lo 12) (hi' 12) wr := hmd.rel 12 (hpre 12 (by kernel_rfl))
          cases r12 with
          | intro u h12 =>
          cases h12 with
          | intro hu htx =>
          obtain rfl : x12 = .tuple #[u, .int .i64 c] := hu
          have kk := fun lx ox ax => sstep_pure (P := Try.prog) (R := RC6 X (.agg #[.string sa, .int .u32 z.a.idx, .int .i64 va, .int .i64 br, .int .u16 z.tag, .int .u16 z.a.lock.delay, .int .u32 (0 : Nat), .int .i64 z.a.dead]) sp z.pidx vv z.tag fe t c) (s := 17) (l := lx) (w0 := w4) (L := L) (xs := [x0, x1, x2, x3, x4, x5, x6, x7, x8, x9, x10, x11, (.tuple #[u, .int .i64 c]), x13, x14, x15, x16, x17]) (lo := lo) (hi := hi') (o := ox) (a := ax) (w := wr) (i := 13) (k := 16) (by decide) (.tuple #[u, .int .i64 c])
          refine kk _ _ _ ?_ ?_
          · kernel_rfl
          · exact rfl
        | 14, ho =>
          obtain rfl := Option.some.inj ho
          have l13 : L 13 := hpre 13 (by kernel_rfl)
          have l12 : L 12 := hmd.closed 13 l13 12 (by kernel_rfl)
          have h13 : x13 = x12 := hmd.val l13 (fun d => d.getD 0 undef) rfl rfl (by kernel_rfl)
          have r12 : TxRes t c x12 (lo 12) (hi' 12) wr := hmd.rel 12 l12
          cases r12 with
          | intro u h12 =>
          cases h12 with
          | intro hu htx =>
          cases hu
          cases h13
          have kk := fun lx ox ax => sstep_pure (P := Try.prog) (R := RC6 X (.agg #[.string sa, .int .u32 z.a.idx, .int .i64 va, .int .i64 br, .int .u16 z.tag, .int .u16 z.a.lock.delay, .int .u32 (0 : Nat), .int .i64 z.a.dead]) sp z.pidx vv z.tag fe t c) (s := 17) (l := lx) (w0 := w4) (L := L) (xs := [x0, x1, x2, x3, x4, x5, x6, x7, x8, x9, x10, x11, (.tuple #[u, .int .i64 c]), (.tuple #[u, .int .i64 c]), x14, x15, x16, x17]) (lo := lo) (hi := hi') (o := ox) (a := ax) (w := wr) (i := 14) (k := 16) (by decide) (u)
          refine kk _ _ _ ?_ ?_
          · kernel_rfl
          · exact rfl
        | 15, ho =>
          obtain rfl := Option.some.inj ho
          have l13 : L 13 := hpre 13 (by kernel_rfl)
          have l12 : L 12 := hmd.closed 13 l13 12 (by kernel_rfl)
          have h13 : x13 = x12 := hmd.val l13 (fun d => d.getD 0 undef) rfl rfl (by kernel_rfl)
          have r12 : TxRes t c x12 (lo 12) (hi' 12) wr := hmd.rel 12 l12
          cases r12 with
          | intro u h12 =>
          cases h12 with
          | intro hu htx =>
          cases hu
          cases h13
          have kk := fun lx ox ax => sstep_pure (P := Try.prog) (R := RC6 X (.agg #[.string sa, .int .u32 z.a.idx, .int .i64 va, .int .i64 br, .int .u16 z.tag, .int .u16 z.a.lock.delay, .int .u32 (0 : Nat), .int .i64 z.a.dead]) sp z.pidx vv z.tag fe t c) (s := 17) (l := lx) (w0 := w4) (L := L) (xs := [x0, x1, x2, x3, x4, x5, x6, x7, x8, x9, x10, x11, (.tuple #[u, .int .i64 c]), (.tuple #[u, .int .i64 c]), x14, x15, x16, x17]) (lo := lo) (hi := hi') (o := ox) (a := ax) (w := wr) (i := 15) (k := 16) (by decide) (.int .i64 c)
          refine kk _ _ _ ?_ ?_
          · kernel_rfl
          · exact rfl
        | 16, ho =>
          obtain rfl := Option.some.inj ho
          have kk := fun lx ox ax => sstep_new (P := Try.prog) (R := RC6 X (.agg #[.string sa, .int .u32 z.a.idx, .int .i64 va, .int .i64 br, .int .u16 z.tag, .int .u16 z.a.lock.delay, .int .u32 (0 : Nat), .int .i64 z.a.dead]) sp z.pidx vv z.tag fe t c) (s := 17) (l := lx) (w0 := w4) (L := L) (xs := [x0, x1, x2, x3, x4, x5, x6, x7, x8, x9, x10, x11, x12, x13, x14, x15, x16, x17]) (lo := lo) (hi := hi') (o := ox) (a := ax) (w := wr) (i := 16) (k := 16) (by decide) (.pointer (some ⟨wr.heap.size, 0, none⟩)) (.cells #[.int .u32 0, .slice none 0 0, .slice none 0 0, .int .u32 0] 43)
          refine kk _ _ _ ?_ ?_
          · kernel_rfl
          · exact ⟨_, Nat.le_refl _, rfl, fun _ => ⟨by simp, heap_alloc_new wr _⟩⟩
        | 17, ho =>
          obtain rfl := Option.some.inj ho
          have l14 : L 14 := hpre 14 (by kernel_rfl)
          have l13 : L 13 := hmd.closed 14 l14 13 (by kernel_rfl)
          have l12 : L 12 := hmd.closed 13 l13 12 (by kernel_rfl)
          have h14 : x14 = fstV x13 := hmd.val l14 (fun d => fstV (d.getD 0 undef)) rfl rfl (by kernel_rfl)
          have h13 : x13 = x12 := hmd.val l13 (fun d => d.getD 0 undef) rfl rfl (by kernel_rfl)
          have r12 : TxRes t c x12 (lo 12) (hi' 12) wr := hmd.rel 12 l12
          have r16 : ∃ b, lo 16 ≤ b ∧ x16 = .pointer (some ⟨b, 0, none⟩) ∧ (¬ L 17 → b < hi' 16 ∧ wr.heap[b]? = some (.cells #[.int .u32 0, .slice none 0 0, .slice none 0 0, .int .u32 0] 43 (0, 0))) := hmd.rel 16 (hpre 16 (by kernel_rfl))
          cases r12 with
          | intro u h12 =>
          cases h12 with
          | intro hu htx =>
          have hsh := (htx wr fun _ _ _ => rfl).shape
          cases hu
          cases h13
          cases h14
          cases hsh with
          | intro i1 hsh =>
          cases hsh with
          | intro i2 hsh =>
          cases hsh with
          | intro o1 hsh =>
          cases hsh with
          | intro o2 hsh =>
          cases hsh
          cases r16 with
          | intro bk h16 =>
          cases h16 with
          | intro _ h16 =>
          cases h16 with
          | intro h16 _ =>
          cases h16
          have kk := fun lx ox ax => sstep_row (P := Try.prog) (R := RC6 X (.agg #[.string sa, .int .u32 z.a.idx, .int .i64 va, .int .i64 br, .int .u16 z.tag, .int .u16 z.a.lock.delay, .int .u32 (0 : Nat), .int .i64 z.a.dead]) sp z.pidx vv z.tag fe t c) (s := 17) (l := lx) (n := 18) (w0 := w4) (L := L) (xs := [x0, x1, x2, x3, x4, x5, x6, x7, x8, x9, x10, x11, .tuple #[.agg #[.int .u32 t.ver, .slice i1 t.ins.length i2, .slice o1 t.outs.length o2, .int .u32 t.lock], .int .i64 c], .tuple #[.agg #[.int .u32 t.ver, .slice i1 t.ins.length i2, .slice o1 t.outs.length o2, .int .u32 t.lock], .int .i64 c], .agg #[.int .u32 t.ver, .slice i1 t.ins.length i2, .slice o1 t.outs.length o2, .int .u32 t.lock], x15, .pointer (some ⟨bk, 0, none⟩), x17]) (lo := lo) (hi := hi') (o := ox) (a := ax) (w := wr) (k := 16) 43 (.tmp 7) (.tmp 58) 43 #[.int .u32 0, .slice none 0 0, .slice none 0 0, .int .u32 0] #[.int .u32 t.ver, .slice i1 t.ins.length i2, .slice o1 t.outs.length o2, .int .u32 t.lock] bk
          refine kk _ _ _ ?_ ?_ ?_ ?_ ?_ ?_ ?_ ?_ ?_ ?_ ?_ ?_ ?_ ?_ ?_
          · exact rfl
          · exact rfl
          · exact rfl
          · exact hmd
          · exact hni
          · exact hpre 16 (by kernel_rfl)
          · rfl
          · rfl
          · kernel_rfl
          · kernel_rfl
          · kernel_rfl
          · rfl
          · kernel_rfl
          · kernel_rfl
          · kernel_rfl
        | q + 18, ho => omega
      · intro xs lo hi wr hmd
        obtain ⟨x0, x1, x2, x3, x4, x5, x6, x7, x8, x9, x10, x11, x12, x13, x14, x15, x16, x17, rfl⟩ : ∃ x0 x1 x2 x3 x4 x5 x6 x7 x8 x9 x10 x11 x12 x13 x14 x15 x16 x17, xs = [x0, x1, x2, x3, x4, x5, x6, x7, x8, x9, x10, x11, x12, x13, x14, x15, x16, x17] := by match xs, hmd.len with | [x0, x1, x2, x3, x4, x5, x6, x7, x8, x9, x10, x11, x12, x13, x14, x15, x16, x17], _ => exact ⟨_, _, _, _, _, _, _, _, _, _, _, _, _, _, _, _, _, _, rfl⟩
        simp only [putAll]
        change wpList _ _ _ (_ :: []) _ _
        have h13 : x13 = x12 := hmd.val (show 13 < 18 by decide) (fun d => d.getD 0 undef) rfl rfl (by kernel_rfl)
        have r12 : TxRes t c x12 (lo 12) (hi 12) wr := hmd.rel 12 (by decide)
        have h14 : x14 = fstV x13 := hmd.val (show 14 < 18 by decide) (fun d => fstV (d.getD 0 undef)) rfl rfl (by kernel_rfl)
        have h15 : x15 = .int .i64 c := hmd.rel 15 (by decide)
        have r17 := hmd.st (show 17 < 18 by decide) (x := x16) (y := x14) (t := 43) rfl (by kernel_rfl) (by kernel_rfl)
        have hbel := hmd.bel
        clear hmd
        have HB5 := Lib.hid (HB4.out.trans (hbel.mono HB4.out.size))
        have HZ0 := Lib.hid (stay HZ0.out hbel)
        have HP := Lib.hid (stay HP.out hbel)
        obtain ⟨T, csT, -, -, h16, h14', gT⟩ := r17
        obtain ⟨u, hu, htx⟩ := r12
        have hT0 : TxAt wr u t := htx wr fun _ _ _ => rfl
        obtain ⟨i1, i2, o1, o2, hsh⟩ := hT0.shape
        subst hsh
        subst hu
        subst h13
        subst h15
        subst h16
        have h14u : x14 = .agg #[.int .u32 t.ver, .slice i1 t.ins.length i2, .slice o1 t.outs.length o2, .int .u32 t.lock] := h14
        subst h14u
        obtain rfl : csT = #[.int .u32 t.ver, .slice i1 t.ins.length i2, .slice o1 t.outs.length o2, .int .u32 t.lock] := by injection h14' with e; exact e.symm
        have HT := Lib.hid gT
        have HTX := Lib.hid hT0
        clear hbel h14 h14' gT htx hT0 p0 p1 p2 p3 p4 p5 p6 p7 q0 q1 z11 HBD HB4 HQ
        by_cases hc0 : c = 0
        rotate_left
        · have hne : (c == 0) = false := by simpa using hc0
          go_wp2_with fail
          refine (wakes24_any wr).mono ?_
          rintro e w6 ⟨rfl, hb⟩
          have HB6 := Lib.hid (HB5.out.trans (hb.mono HB5.out.size))
          clear hb
          go_wp2_with fail
          go_ret
          exact ⟨rfl, HB6.out⟩
        subst hc0
        obtain ⟨ht, hck, -, hbr0, hbr3⟩ := child_ok HZZ.out
        dsimp only at ht hbr0 hbr3
        subst ht
        have HSZ := Lib.hid (child_size hck)
        have HCK := Lib.hid hck
        have ho0 := sz_open0 (a := ⟨sa, z.a.idx, va, br, ⟨z.tag, z.a.lock.delay, 0⟩, z.a.dead⟩) (cid := sp) (ci := z.pidx) (v := va + vv - fe) ⟨hbr0, hbr3⟩ htg rfl HOK.out.a.lock.delay rfl
        have HO1 := Lib.hid (sz_open1 (a := ⟨sa, z.a.idx, va, br, ⟨z.tag, z.a.lock.delay, 0⟩, z.a.dead⟩) (cid := sp) (ci := z.pidx) (v := va + vv - fe) htg)
        obtain ⟨l3, hl3, hl3n⟩ := three_len (b := ⟨z.tag, z.a.lock.delay, 0⟩) rfl
        dsimp only at ho0
        rw [hl3] at ho0
        have HO0 := Lib.hid ho0
        have hbok : PBr.Ok ⟨z.tag, z.a.lock.delay, 0⟩ := ⟨htg, HOK.out.a.lock.delay, by show 0 < 4294967296; omega⟩
        have hob := HTX.out.outs4
        obtain ⟨b, o, x, ho1, hx, -, q0, q1⟩ := hob.outp (i := 0) (show 0 < 1 by decide)
        subst ho1
        obtain rfl : (⟨va + vv - fe, scrT z.tag⟩ : POut) = x := Option.some.inj hx
        dsimp only at q0 q1
        rw [show o + 0 * 2 = o by omega] at q0 q1
        have HTX2 := Lib.hid (show TxAt wr (.agg #[.int .u32 2, .slice i1 2 i2, .slice (some ⟨b, o, none⟩) 1 o2, .int .u32 0]) (childTx ⟨sa, z.a.idx, va, br, ⟨z.tag, z.a.lock.delay, 0⟩, z.a.dead⟩ sp z.pidx z.tag (va + vv - fe)) from HTX.out)
        have t0 : wr.cell? ⟨T, 0, none⟩ = some (.int .u32 2) := cell_at HT.out
        have t1 : wr.cell? ⟨T, 1, none⟩ = some (.slice i1 2 i2) := cell_at HT.out
        have t2 : wr.cell? ⟨T, 2, none⟩ = some (.slice (some ⟨b, o, none⟩) 1 o2) := cell_at HT.out
        have t3 : wr.cell? ⟨T, 3, none⟩ = some (.int .u32 0) := cell_at HT.out
        have p2 : wr.cell? ⟨P, 2, none⟩ = some (.int .i64 va) := cell_at HP.out
        have p4 : wr.cell? ⟨P, 4, none⟩ = some (.int .u16 z.tag) := cell_at HP.out
        have p5 : wr.cell? ⟨P, 5, none⟩ = some (.int .u16 z.a.lock.delay) := cell_at HP.out
        have p6 : wr.cell? ⟨P, 6, none⟩ = some (.int .u32 0) := cell_at HP.out
        have z11 : wr.cell? ⟨X, 11, none⟩ = some (.int .u16 z.tag) := cell_at HZ0.out
        have HQ := Lib.hid (isize_any _ _ wr HTX2.out (by show 1 ≤ 1000; decide))
        rw [HSZ.out, HCK.out] at HQ
        obtain ⟨k1a, k1b⟩ := HM1.out
        obtain ⟨k3a, k3b⟩ := HM3.out
        obtain ⟨k4a, k4b⟩ := HM4.out
        have hw1 : IntKind.i64.wrap (va + vv) = va + vv := by rw [IntKind.wrap_i64]; omega
        have hw2 : IntKind.i64.wrap (va + vv - fe) = va + vv - fe := by rw [IntKind.wrap_i64]; omega
        clear hob hx ho0 HTX HT HP HZ0 hck
        go_wp2_with fail
        refine (HQ.out).mono ?_
        rintro e w6 ⟨rfl, hb⟩
        replace t0 := below_cells hb _ _ t0
        replace t1 := below_cells hb _ _ t1
        replace t2 := below_cells hb _ _ t2
        replace t3 := below_cells hb _ _ t3
        replace q0 := below_cells hb _ _ q0
        replace q1 := below_cells hb _ _ q1
        replace p2 := below_cells hb _ _ p2
        replace p4 := below_cells hb _ _ p4
        replace p5 := below_cells hb _ _ p5
        replace p6 := below_cells hb _ _ p6
        replace z11 := below_cells hb _ _ z11
        have HB5 := Lib.hid (HB5.out.trans (hb.mono HB5.out.size))
        have HTX2 := Lib.hid (HTX2.out.below hb)
        clear hb
        have HL := Lib.hid (lput_any _ _ _ (sl_three w6 ⟨z.tag, z.a.lock.delay, 0⟩ hbok))
        unfold LockPutIs at HL
        rw [hl3] at HL
        dsimp only at HL
        go_wp2_with fail
        refine HL.out.mono ?_
        rintro e w7 ⟨rfl, hb⟩
        replace hb := below_box hb
        replace t0 := below_cells hb _ _ t0
        replace t1 := below_cells hb _ _ t1
        replace t2 := below_cells hb _ _ t2
        replace t3 := below_cells hb _ _ t3
        replace q0 := below_cells hb _ _ q0
        replace q1 := below_cells hb _ _ q1
        replace p2 := below_cells hb _ _ p2
        replace z11 := below_cells hb _ _ z11
        have HB5 := Lib.hid (HB5.out.trans (hb.mono HB5.out.size))
        have HTX2 := Lib.hid (HTX2.out.below hb)
        clear hb HL p4 p5 p6
        have hoa : ∀ y, Below w7.heap.size w7 y → Calls Try.prog 20 #[.string ⟨l3.toArray⟩, .agg #[.int .u32 2, .slice i1 2 i2, .slice (some ⟨b, o, none⟩) 1 o2, .int .u32 0], .int .i64 0] y fun e w' => e = .returned (.int .i64 0) ∧ Below y.heap.size y w' := fun y h => by
          have hq := open_any ⟨l3.toArray⟩ (by rw [mk_size]; omega) _ _ 0 y (HTX2.out.below h)
          unfold OpenIs at hq
          rw [HO0.out] at hq
          exact hq
        have hob : ∀ y, Below w7.heap.size w7 y → Calls Try.prog 20 #[.string (scrT z.tag), .agg #[.int .u32 2, .slice i1 2 i2, .slice (some ⟨b, o, none⟩) 1 o2, .int .u32 0], .int .i64 1] y fun e w' => e = .returned (.int .i64 0) ∧ Below y.heap.size y w' := fun y h => by
          have hq := open_any (scrT z.tag) (by rw [scrT_size]; omega) _ _ 1 y (HTX2.out.below h)
          unfold OpenIs at hq
          rw [HO1.out] at hq
          exact hq
        have HOA := Lib.hid hoa
        have HOB := Lib.hid hob
        clear hoa hob
        go_upto_region 10 with fail
        obtain ⟨C, hC⟩ : ∃ C : World → Prop, C = fun w' => Below w7.heap.size w7 w' := ⟨_, rfl⟩
        have kt0 := kin_cell hC t0
        have kt1 := kin_cell hC t1
        have kt2 := kin_cell hC t2
        have kt3 := kin_cell hC t3
        have kq0 := kin_cell hC q0
        have kq1 := kin_cell hC q1
        have kp2 := kin_cell hC p2
        have kz11 := kin_cell hC z11
        have QW := Lib.hid (kin_call hC fun y h => wakes24_any y)
        have QS := Lib.hid (kin_call hC fun y h => csize_any y)
        have QC := Lib.hid (kin_call hC fun y h => rscript_any z.tag htg y)
        have QA := Lib.hid (kin_call hC fun y h => HOA.out y h)
        have QB := Lib.hid (kin_call hC fun y h => HOB.out y h)
        have HC := Lib.hid hC
        clear hC
        refine wp_region_kin C (by kernel_rfl) (by kernel_rfl) (by rw [HC.out]; exact ⟨rfl, rfl, rfl, Nat.le_refl _, fun _ _ => rfl⟩) ?_
        intro hne
        repeat (first | (go_big_quiet_step (first | (rename_i y; go_at_call 11; exact Calls.kin (QW.out y) (fun w' h => h)) | (rename_i y; go_at_call 15; exact Calls.kin (QS.out y) (fun w' h => h)) | (rename_i y; go_at_call 17; exact Calls.kin (QC.out y) (fun w' h => h)) | (rename_i y; go_at_call_of 20 (#[.string ⟨l3.toArray⟩, .agg #[.int .u32 2, .slice i1 2 i2, .slice (some ⟨b, o, none⟩) 1 o2, .int .u32 0], .int .i64 0] : Array Value); exact Calls.kin (QA.out y) (fun w' h => h)) | (rename_i y; go_at_call_of 20 (#[.string (scrT z.tag), .agg #[.int .u32 2, .slice i1 2 i2, .slice (some ⟨b, o, none⟩) 1 o2, .int .u32 0], .int .i64 1] : Array Value); exact Calls.kin (QB.out y) (fun w' h => h)))) | (quiet_step (first | (rename_i y; go_at_call 11; exact Calls.kin (QW.out y) (fun w' h => h)) | (rename_i y; go_at_call 15; exact Calls.kin (QS.out y) (fun w' h => h)) | (rename_i y; go_at_call 17; exact Calls.kin (QC.out y) (fun w' h => h)) | (rename_i y; go_at_call_of 20 (#[.string ⟨l3.toArray⟩, .agg #[.int .u32 2, .slice i1 2 i2, .slice (some ⟨b, o, none⟩) 1 o2, .int .u32 0], .int .i64 0] : Array Value); exact Calls.kin (QA.out y) (fun w' h => h)) | (rename_i y; go_at_call_of 20 (#[.string (scrT z.tag), .agg #[.int .u32 2, .slice i1 2 i2, .slice (some ⟨b, o, none⟩) 1 o2, .int .u32 0], .int .i64 1] : Array Value); exact Calls.kin (QB.out y) (fun w' h => h)))))
        refine wpQuiet_nil ?_
        intro _ hw'
        obtain ⟨kx, hw''⟩ := hw'
        subst hw''
        obtain ⟨w8, hxc⟩ := kx
        rw [HC.out] at hxc
        clear HC hne kt0 kt1 kt2 kt3 kq0 kq1 kp2 kz11
        have HB8 := Lib.hid (HB5.out.trans (hxc.mono HB5.out.size))
        go_wp2_with fail
        go_ret
        exact ⟨rfl, HB8.out⟩
end Go.Proofs.Ytmakghcoehkphaa
end
