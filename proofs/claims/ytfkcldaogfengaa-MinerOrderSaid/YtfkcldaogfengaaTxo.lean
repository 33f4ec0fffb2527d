/-
  Transactions in memory of a call's own: rows that nobody else has, each In's witness in a row of its own. Conditions: none beyond each lemma's own.
-/
import Derived.Test.YtfkcldaogfengaaTxd
namespace Go.Proofs.Ytfkcldaogfengaa
open Go.RowKit
set_option linter.unusedVariables false
set_option linter.unusedSimpArgs false

/-! ### rows of cells of one size -/
theorem flat_len {α β : Type} (f : α → List β) (k : Nat) (hf : ∀ a, (f a).length = k) (l : List α) : (l.flatMap f).length = l.length * k := by
  induction l with
  | nil => simp
  | cons a l ih => rw [List.flatMap_cons, List.length_append, hf, ih, List.length_cons, Nat.add_mul]; omega
theorem flat_at {α β : Type} (f : α → List β) (k : Nat) (hf : ∀ a, (f a).length = k) : ∀ (l : List α) (i : Nat) (a : α), l[i]? = some a → ∀ j, j < k → (l.flatMap f)[i * k + j]? = (f a)[j]?
  | [], i, a, h, j, hj => by simp at h
  | b :: l, 0, a, h, j, hj => by
    obtain rfl : b = a := by simpa using h
    rw [List.flatMap_cons, List.getElem?_append_left (by rw [hf]; omega)]
    simp
  | b :: l, i + 1, a, h, j, hj => by
    rw [List.flatMap_cons, List.getElem?_append_right (by rw [hf, Nat.add_mul]; omega)]
    rw [hf, show (i + 1) * k + j - k = i * k + j by rw [Nat.add_mul]; omega]
    exact flat_at f k hf l i a (by simpa using h) j hj
theorem flat_set {α β : Type} (f : α → List β) (k : Nat) (hf : ∀ a, (f a).length = k) : ∀ (l : List α) (i : Nat) (a a' : α), l[i]? = some a → ∀ (j : Nat) (u : β), j < k → (f a).set j u = f a' → (l.flatMap f).set (i * k + j) u = (l.set i a').flatMap f
  | [], i, a, a', h, j, u, hj, hs => by simp at h
  | b :: l, 0, a, a', h, j, u, hj, hs => by
    obtain rfl : b = a := by simpa using h
    rw [List.flatMap_cons, List.set_append_left _ _ (by rw [hf]; omega)]
    simp [hs]
  | b :: l, i + 1, a, a', h, j, u, hj, hs => by
    rw [List.flatMap_cons, List.set_append_right _ _ (by rw [hf, Nat.add_mul]; omega)]
    rw [hf, show (i + 1) * k + j - k = i * k + j by rw [Nat.add_mul]; omega]
    rw [flat_set f k hf l i a a' (by simpa using h) j u hj hs]
    simp

/-! ### texts -/
def strCells (l : List ByteArray) : List Value := l.map .string
theorem strCells_len (l : List ByteArray) : (strCells l).length = l.length := by simp [strCells]

def okStrs (l : List ByteArray) : Prop := ∀ s ∈ l, s.size ≤ maxLen
theorem SlAt.of_strs {w : World} {base n : Nat} {v : Value} {l : List ByteArray} (h : w.ownsRow base 9 1 v n (strCells l)) (hn : n = l.length) (ho : okStrs l) : SlAt rpStr w v l := by
  subst hn
  obtain ⟨a, c, rfl, h1, h2⟩ := ownsRow_shape h
  refine ⟨a, c, rfl, h1, h2, fun i x hi => ?_⟩
  have hil : i < l.length := (List.getElem?_eq_some_iff.1 hi).1
  obtain ⟨b, rfl, hb, hb2⟩ := ownsRow_some h (by omega)
  refine ⟨b, 0, [.string x], rfl, rfl, fun j u hj => ?_, rfl, ho x (List.mem_of_getElem? hi)⟩
  obtain rfl : j = 0 := by have := (List.getElem?_eq_some_iff.1 hj).1; simp at this; omega
  have := h.cells (g := b) rfl i u (by simp at hj; simp [strCells, hi, hj])
  rw [Addr.add_lit] at this
  simpa [rpStr] using this

/-! ### Ins -/
def inRow (p : PIn × Value) : List Value := [.string p.1.id, .int .u32 p.1.idx, .int .u32 p.1.seq, p.2]
def insCells (ps : List (PIn × Value)) : List Value := ps.flatMap inRow
theorem inRow_len (p : PIn × Value) : (inRow p).length = 4 := rfl
theorem insCells_len (ps : List (PIn × Value)) : (insCells ps).length = ps.length * 4 := flat_len inRow 4 inRow_len ps

structure OkIn (x : PIn) : Prop where
  id : x.id.size ≤ maxLen
  idx : x.idx < 4294967296
  seq : x.seq < 4294967296
  wit : okStrs x.wit

/-- Ins with their witnesses' values, all in rows from a base on. -/
structure InsOwn (base : Nat) (w : World) (v : Value) (ps : List (PIn × Value)) : Prop where
  row : w.ownsRow base 66 4 v ps.length (insCells ps)
  wit : ∀ (i : Nat) (p : PIn × Value), ps[i]? = some p → w.ownsRow base 9 1 p.2 p.1.wit.length (strCells p.1.wit)
  ok : ∀ (i : Nat) (p : PIn × Value), ps[i]? = some p → OkIn p.1
  out : ∀ (i : Nat) (p : PIn × Value) (b : Nat), ps[i]? = some p → p.2.ownBlock = some b → v.ownBlock ≠ some b
  apart : ∀ (i j : Nat) (p q : PIn × Value) (b : Nat), ps[i]? = some p → ps[j]? = some q → i ≠ j → p.2.ownBlock = some b → q.2.ownBlock ≠ some b

/-- Is the block one of theirs? -/
def InsHas (v : Value) (ps : List (PIn × Value)) (b : Nat) : Prop := v.ownBlock = some b ∨ ∃ (i : Nat) (p : PIn × Value), ps[i]? = some p ∧ p.2.ownBlock = some b
theorem InsOwn.lt {base : Nat} {w : World} {v : Value} {ps : List (PIn × Value)} (h : InsOwn base w v ps) {b : Nat} (hb : InsHas v ps b) : base ≤ b ∧ b < w.heap.size := by
  rcases hb with hb | ⟨i, p, hp, hb⟩
  · exact h.row.lt b hb
  · exact (h.wit i p hp).lt b hb
theorem InsOwn.kept {base : Nat} {w w' : World} {v : Value} {ps : List (PIn × Value)} (h : InsOwn base w v ps) (hk : ∀ b, InsHas v ps b → w'.heap[b]? = w.heap[b]?) : InsOwn base w' v ps :=
  ⟨ownsRow_of_block h.row fun k e => hk k (Or.inl e), fun i p hp => ownsRow_of_block (h.wit i p hp) fun k e => hk k (Or.inr ⟨i, p, hp, e⟩), h.ok, h.out, h.apart⟩
theorem InsOwn.below {base : Nat} {w w' : World} {v : Value} {ps : List (PIn × Value)} (h : InsOwn base w v ps) (hb : Below w.heap.size w w') : InsOwn base w' v ps :=
  h.kept fun b hh => hb.block b (h.lt hh).2
theorem InsOwn.store {base : Nat} {w : World} {v : Value} {ps : List (PIn × Value)} (h : InsOwn base w v ps) (p : Addr) (u : Value) (hn : ¬ InsHas v ps p.block) : InsOwn base (w.setCell p u) v ps :=
  h.kept fun b hh => Below.heap_setCell _ _ _ _ (fun e => hn (e ▸ hh))
theorem InsOwn.base {base base' : Nat} {w : World} {v : Value} {ps : List (PIn × Value)} (h : InsOwn base w v ps) (hb : base' ≤ base) : InsOwn base' w v ps :=
  ⟨ownsRow_base h.row hb, fun i p hp => ownsRow_base (h.wit i p hp) hb, h.ok, h.out, h.apart⟩
theorem insOwn_nil (base : Nat) (w : World) : InsOwn base w (.slice none 0 0) [] :=
  ⟨World.ownsRow_nil _ _ _ _, fun i p h => by simp at h, fun i p h => by simp at h, fun i p b h => by simp at h, fun i j p q b h => by simp at h⟩

/-- One In more. -/
theorem InsOwn.snoc {base : Nat} {w w' : World} {v v' : Value} {ps : List (PIn × Value)} {x : PIn} {wv : Value} (h : InsOwn base w v ps)
    (hrow : w'.ownsRow base 66 4 v' (ps.length + 1) (insCells ps ++ inRow (x, wv)))
    (hv : v'.ownBlock = v.ownBlock ∨ ∃ B, v'.ownBlock = some B ∧ w.heap.size ≤ B ∧ wv.ownBlock ≠ some B)
    (hk : ∀ b, b < w.heap.size → v.ownBlock ≠ some b → w'.heap[b]? = w.heap[b]?)
    (hw : w'.ownsRow base 9 1 wv x.wit.length (strCells x.wit)) (hox : OkIn x) (hnew : ∀ b, wv.ownBlock = some b → ¬ InsHas v ps b) : InsOwn base w' v' (ps ++ [(x, wv)]) := by
  have hvn : ∀ (i : Nat) (p : PIn × Value) (b : Nat), ps[i]? = some p → p.2.ownBlock = some b → v'.ownBlock ≠ some b := by
    intro i p b hp hb e
    rcases hv with hv | ⟨B, hB, hle, -⟩
    · exact h.out i p b hp hb (hv ▸ e)
    · obtain rfl : B = b := by rw [hB] at e; exact Option.some.inj e
      have := (h.wit i p hp).lt B hb
      omega
  have split : ∀ (i : Nat) (p : PIn × Value), (ps ++ [(x, wv)])[i]? = some p → (i < ps.length ∧ ps[i]? = some p) ∨ (i = ps.length ∧ p = (x, wv)) := by
    intro i p hp
    rcases Nat.lt_or_ge i ps.length with hi | hi
    · rw [List.getElem?_append_left hi] at hp; exact .inl ⟨hi, hp⟩
    · rw [List.getElem?_append_right hi] at hp
      have h0 : i - ps.length = 0 := by have := (List.getElem?_eq_some_iff.1 hp).1; simp at this; omega
      rw [h0] at hp
      exact .inr ⟨by omega, by simpa using hp.symm⟩
  refine ⟨?_, ?_, ?_, ?_, ?_⟩
  · rw [List.length_append]
    have : insCells (ps ++ [(x, wv)]) = insCells ps ++ inRow (x, wv) := by simp [insCells]
    rw [this]; exact hrow
  · intro i p hp
    rcases split i p hp with ⟨hi, hp⟩ | ⟨hi, rfl⟩
    · exact ownsRow_of_block (h.wit i p hp) fun k e => hk k ((h.wit i p hp).lt k e).2 (h.out i p k hp e)
    · exact hw
  · intro i p hp
    rcases split i p hp with ⟨hi, hp⟩ | ⟨hi, rfl⟩
    · exact h.ok i p hp
    · exact hox
  · intro i p b hp hb
    rcases split i p hp with ⟨hi, hp⟩ | ⟨hi, rfl⟩
    · exact hvn i p b hp hb
    · intro e
      rcases hv with hv | ⟨B, hB, hle, hne⟩
      · exact hnew b hb (Or.inl (hv ▸ e))
      · obtain rfl : B = b := by rw [hB] at e; exact Option.some.inj e
        exact hne hb
  · intro i j p q b hp hq hij hb e
    rcases split i p hp with ⟨hi, hp⟩ | ⟨hi, rfl⟩ <;> rcases split j q hq with ⟨hj, hq⟩ | ⟨hj, rfl⟩
    · exact h.apart i j p q b hp hq hij hb e
    · exact hnew b e (Or.inr ⟨i, p, hp, hb⟩)
    · exact hnew b hb (Or.inr ⟨j, q, hq, e⟩)
    · omega

/-- The cells of an In. -/
theorem InsOwn.at {base : Nat} {w : World} {a : Option Addr} {n c : Nat} {ps : List (PIn × Value)} (h : InsOwn base w (.slice a n c) ps) {i : Nat} {p : PIn × Value} (hi : ps[i]? = some p) :
    ∃ b, a = some ⟨b, 0, none⟩ ∧ base ≤ b ∧ b < w.heap.size ∧ w.cell? ⟨b, i * 4, none⟩ = some (.string p.1.id) ∧ w.cell? ⟨b, i * 4 + 1, none⟩ = some (.int .u32 p.1.idx) ∧ w.cell? ⟨b, i * 4 + 2, none⟩ = some (.int .u32 p.1.seq) ∧ w.cell? ⟨b, i * 4 + 3, none⟩ = some p.2 := by
  obtain ⟨a', c', e, -, -⟩ := ownsRow_shape h.row
  obtain ⟨rfl, rfl, rfl⟩ : a = a' ∧ n = ps.length ∧ c = c' := by simpa using e
  obtain ⟨b, rfl, h1, h2⟩ := ownsRow_some h.row (by have := (List.getElem?_eq_some_iff.1 hi).1; omega)
  refine ⟨b, rfl, h1, h2, ?_, ?_, ?_, ?_⟩
  · have := h.row.cells (g := b) rfl (i * 4 + 0) _ (flat_at inRow 4 inRow_len ps i p hi 0 (by omega))
    simpa [Addr.add_lit] using this
  · have := h.row.cells (g := b) rfl (i * 4 + 1) _ (flat_at inRow 4 inRow_len ps i p hi 1 (by omega))
    simpa [Addr.add_lit] using this
  · have := h.row.cells (g := b) rfl (i * 4 + 2) _ (flat_at inRow 4 inRow_len ps i p hi 2 (by omega))
    simpa [Addr.add_lit] using this
  · have := h.row.cells (g := b) rfl (i * 4 + 3) _ (flat_at inRow 4 inRow_len ps i p hi 3 (by omega))
    simpa [Addr.add_lit] using this

/-- As data. -/
theorem InsOwn.sl {base : Nat} {w : World} {v : Value} {ps : List (PIn × Value)} (h : InsOwn base w v ps) : SlAt rpIn w v (ps.map (·.1)) := by
  obtain ⟨a, c, rfl, h1, h2⟩ := ownsRow_shape h.row
  refine ⟨a, c, by simp, by simpa using h1, h2, fun i x hi => ?_⟩
  rw [List.getElem?_map] at hi
  obtain ⟨p, hp, rfl⟩ := Option.map_eq_some_iff.1 hi
  obtain ⟨b, rfl, hb, -, e0, e1, e2, e3⟩ := h.at hp
  refine ⟨b, 0, [.string p.1.id, .int .u32 p.1.idx, .int .u32 p.1.seq, p.2], rfl, rfl, fun j u hj => ?_, p.2, rfl, (SlAt.of_strs (h.wit i p hp) rfl (h.ok i p hp).wit), (h.ok i p hp).id, (h.ok i p hp).idx, (h.ok i p hp).seq⟩
  rw [show 0 + i * rpIn.size + j = i * 4 + j by simp [rpIn]]
  match j, hj with
  | 0, hj => simp at hj; subst hj; exact e0
  | 1, hj => simp at hj; subst hj; exact e1
  | 2, hj => simp at hj; subst hj; exact e2
  | 3, hj => simp at hj; subst hj; exact e3

/-- One of an In's own cells is written: not its witness's elements. -/
theorem InsOwn.set {base : Nat} {w : World} {b n c : Nat} {ps : List (PIn × Value)} (h : InsOwn base w (.slice (some ⟨b, 0, none⟩) n c) ps) {i : Nat} {p p' : PIn × Value} (hi : ps[i]? = some p) (j : Nat) (u : Value) (hj : j < 4) (hs : (inRow p).set j u = inRow p')
    (hw : w.ownsRow base 9 1 p'.2 p'.1.wit.length (strCells p'.1.wit)) (hok : OkIn p'.1) (hb : p'.2.ownBlock = p.2.ownBlock ∨ p'.2.ownBlock = none ∨ ∃ B, p'.2.ownBlock = some B ∧ ¬ InsHas (.slice (some ⟨b, 0, none⟩) n c) ps B) :
    InsOwn base (w.setCell ⟨b, i * 4 + j, none⟩ u) (.slice (some ⟨b, 0, none⟩) n c) (ps.set i p') := by
  obtain ⟨a', c', e, -, -⟩ := ownsRow_shape h.row
  obtain ⟨-, rfl, rfl⟩ : some (⟨b, 0, none⟩ : Addr) = a' ∧ n = ps.length ∧ c = c' := by simpa using e
  have hil : i < ps.length := (List.getElem?_eq_some_iff.1 hi).1
  have split : ∀ (k : Nat) (q : PIn × Value), (ps.set i p')[k]? = some q → (k ≠ i ∧ ps[k]? = some q) ∨ (k = i ∧ q = p') := by
    intro k q hq
    by_cases hk : k = i
    · subst hk; rw [List.getElem?_set_self hil] at hq; exact .inr ⟨rfl, by simpa using hq.symm⟩
    · rw [List.getElem?_set_ne (Ne.symm hk)] at hq; exact .inl ⟨hk, hq⟩
  have hbn : ∀ B, p'.2.ownBlock = some B → B ≠ b ∧ ∀ k q, k ≠ i → ps[k]? = some q → q.2.ownBlock ≠ some B := by
    intro B hB
    rcases hb with hb | hb | ⟨B', hB', hn⟩
    · rw [hb] at hB
      exact ⟨fun e => h.out i p B hi hB (by rw [e]; rfl), fun k q hk hq => fun e => h.apart i k p q B hi hq (Ne.symm hk) hB e⟩
    · rw [hb] at hB; cases hB
    · obtain rfl : B' = B := by rw [hB'] at hB; exact Option.some.inj hB
      exact ⟨fun e => hn (Or.inl (by rw [e]; rfl)), fun k q hk hq e => hn (Or.inr ⟨k, q, hq, e⟩)⟩
  refine ⟨?_, ?_, ?_, ?_, ?_⟩
  · rw [List.length_set]
    have hx : insCells (ps.set i p') = (insCells ps).set (i * 4 + j) u := (flat_set inRow 4 inRow_len ps i p p' hi j u hj hs).symm
    rw [hx]
    exact ownsRow_set h.row (by rw [insCells_len]; omega) u
  · intro k q hq
    rcases split k q hq with ⟨hk, hq⟩ | ⟨rfl, rfl⟩
    · exact ownsRow_other (h.wit k q hq) _ _ (fun e => h.out k q b hq e rfl)
    · exact ownsRow_other hw _ _ (fun e => (hbn b e).1 rfl)
  · intro k q hq
    rcases split k q hq with ⟨hk, hq⟩ | ⟨rfl, rfl⟩
    · exact h.ok k q hq
    · exact hok
  · intro k q B hq hB
    rcases split k q hq with ⟨hk, hq⟩ | ⟨rfl, rfl⟩
    · exact h.out k q B hq hB
    · intro e
      exact (hbn B hB).1 (by simpa [Value.ownBlock] using e.symm)
  · intro k l q r B hq hr hkl hB
    rcases split k q hq with ⟨hk, hq'⟩ | ⟨hk, hq'⟩ <;> rcases split l r hr with ⟨hl, hr'⟩ | ⟨hl, hr'⟩
    · exact h.apart k l q r B hq' hr' hkl hB
    · subst hr'
      exact fun e => (hbn B e).2 k q hk hq' hB
    · subst hq'
      exact (hbn B hB).2 l r hl hr'
    · omega

/-- One element of an In's witness is written. -/
theorem InsOwn.setStr {base : Nat} {w : World} {v : Value} {ps : List (PIn × Value)} (h : InsOwn base w v ps) {i : Nat} {x : PIn} {B l c : Nat} (hi : ps[i]? = some (x, .slice (some ⟨B, 0, none⟩) l c)) {k : Nat} (hk : k < x.wit.length) (s : ByteArray) (hs : s.size ≤ maxLen) :
    InsOwn base (w.setCell ⟨B, k, none⟩ (.string s)) v (ps.set i ({ x with wit := x.wit.set k s }, .slice (some ⟨B, 0, none⟩) l c)) := by
  have hil : i < ps.length := (List.getElem?_eq_some_iff.1 hi).1
  have split : ∀ (k' : Nat) (q : PIn × Value), (ps.set i ({ x with wit := x.wit.set k s }, .slice (some ⟨B, 0, none⟩) l c))[k']? = some q → (k' ≠ i ∧ ps[k']? = some q) ∨ (k' = i ∧ q = ({ x with wit := x.wit.set k s }, .slice (some ⟨B, 0, none⟩) l c)) := by
    intro k' q hq
    by_cases hk : k' = i
    · subst hk; rw [List.getElem?_set_self hil] at hq; exact .inr ⟨rfl, by simpa using hq.symm⟩
    · rw [List.getElem?_set_ne (Ne.symm hk)] at hq; exact .inl ⟨hk, hq⟩
  have hwi := h.wit i _ hi
  obtain ⟨a', c', e, -, -⟩ := ownsRow_shape hwi
  obtain ⟨-, hl, rfl⟩ : some (⟨B, 0, none⟩ : Addr) = a' ∧ l = x.wit.length ∧ c = c' := by simpa using e
  refine ⟨?_, ?_, ?_, ?_, ?_⟩
  · rw [List.length_set]
    have hx : insCells (ps.set i ({ x with wit := x.wit.set k s }, .slice (some ⟨B, 0, none⟩) l c)) = insCells ps := by
      have h2 := flat_set inRow 4 inRow_len ps i _ ({ x with wit := x.wit.set k s }, .slice (some ⟨B, 0, none⟩) l c) hi 1 (.int .u32 x.idx) (by omega) rfl
      have h3 : (ps.flatMap inRow).set (i * 4 + 1) (.int .u32 x.idx) = ps.flatMap inRow := by
        have h4 := flat_at inRow 4 inRow_len ps i _ hi 1 (by omega)
        obtain ⟨h5, h6⟩ := List.getElem?_eq_some_iff.1 h4
        conv => lhs; rw [← show (ps.flatMap inRow)[i * 4 + 1]'h5 = .int .u32 x.idx from h6]
        exact List.set_getElem_self h5
      unfold insCells
      rw [← h2, h3]
    rw [hx]
    exact ownsRow_other h.row _ _ (fun e => h.out i _ B hi rfl e)
  · intro k' q hq
    rcases split k' q hq with ⟨hk', hq⟩ | ⟨rfl, rfl⟩
    · exact ownsRow_other (h.wit k' q hq) _ _ (fun e => h.apart k' i q _ B hq hi hk' e rfl)
    · dsimp only at *
      rw [hl] at hwi ⊢
      rw [List.length_set]
      have hx : strCells (x.wit.set k s) = (strCells x.wit).set k (.string s) := by simp [strCells, List.map_set]
      rw [hx]
      exact ownsRow_set hwi (by rw [strCells_len]; exact hk) _
  · intro k' q hq
    rcases split k' q hq with ⟨hk', hq⟩ | ⟨rfl, rfl⟩
    · exact h.ok k' q hq
    · have := h.ok k' _ hi
      refine ⟨this.id, this.idx, this.seq, fun s' hs' => ?_⟩
      rcases List.mem_or_eq_of_mem_set hs' with h1 | rfl
      · exact this.wit s' h1
      · exact hs
  · intro k' q b hq hb
    rcases split k' q hq with ⟨hk', hq⟩ | ⟨rfl, rfl⟩
    · exact h.out k' q b hq hb
    · exact h.out k' _ b hi hb
  · intro k' l' q r b hq hr hkl hb
    rcases split k' q hq with ⟨hk', hq'⟩ | ⟨hk', hq'⟩ <;> rcases split l' r hr with ⟨hl', hr'⟩ | ⟨hl', hr'⟩
    · exact h.apart k' l' q r b hq' hr' hkl hb
    · subst hr'
      subst hl'
      exact fun e => h.apart k' l' q (x, .slice (some ⟨B, 0, none⟩) l c) b hq' hi hkl hb e
    · subst hq'
      subst hk'
      exact h.apart k' l' (x, .slice (some ⟨B, 0, none⟩) l c) r b hi hr' hkl hb
    · omega

section
variable {P : Program}
/-- 'append(s, x)' of one element, and where the row then lies. -/
theorem append_one {w : World} {base t ty e size bytes n : Nat} {i : TypeInfo} {z v : Value} {xs : List Value} (ht : P.underlying t = some (.slice e)) (hi : P.info? e = some i) (hz : i.zero = some z)
    (hsize : i.size = size) (hby : i.bytes = bytes) (hzs : z.cells.size = size) (hown : w.ownsRow base e size v n xs) (cs : Array Value) (hcs : cs.size = size) (h1 : ∀ u ∈ cs.toList, u.oneCell' = true)
    (hn : n + 1 ≤ maxLen) (hb : (n + 1) * bytes ≤ 140737488355328) (hbase : base ≤ w.heap.size) :
    ∃ a' c' w', (Builtin.append_ #[t, t] ty #[v, .slice (some ⟨w.heap.size, 0, none⟩) 1 1]).run P (w.alloc (.cells cs e)) = .ok (.slice a' (n + 1) c') w' ∧
      w'.ownsRow base e size (.slice a' (n + 1) c') (n + 1) (xs ++ cs.toList) ∧ Below base w w' ∧ (w.alloc (.cells cs e)).grownBy w' v.ownBlock ∧
      ((Value.slice a' (n + 1) c').ownBlock = v.ownBlock ∨ (Value.slice a' (n + 1) c').ownBlock = some (w.heap.size + 1)) := by
  obtain ⟨v', w', hr, ho, hg, hv⟩ := append_own_src (P := P) (w.alloc (.cells cs e)) base t t ty e i z size bytes ht hi hz hsize hby hzs v n xs (hown.alloc _) (.slice (some ⟨w.heap.size, 0, none⟩) 1 1) 1 cs.toList
    (Src.ofSlice _ ht ⟨w.heap.size, 0, none⟩ 1 1 cs.toList (by simp [hcs]) (fun j u hj => by
      rw [Addr.add_lit, Nat.zero_add, cell_at (heap_alloc_new w (.cells cs e))]
      simpa using hj) h1) hn hb (by simp; omega)
  obtain ⟨a', c', rfl, _, _⟩ := ownsRow_shape ho
  exact ⟨a', c', w', hr, ho, ((Below.refl base w).alloc hbase _).grown hg (by simp; omega) (fun k hk => (hown.lt k hk).1), hg, by simpa using hv⟩
end

/-! ### Outs -/
def outRow (x : POut) : List Value := [.int .i64 x.val, .string x.script]
def outsCells (l : List POut) : List Value := l.flatMap outRow
theorem outRow_len (x : POut) : (outRow x).length = 2 := rfl
theorem outsCells_len (l : List POut) : (outsCells l).length = l.length * 2 := flat_len outRow 2 outRow_len l
def OkOut (x : POut) : Prop := (-9223372036854775808 ≤ x.val ∧ x.val ≤ 9223372036854775807) ∧ x.script.size ≤ maxLen
structure OutsOwn (base : Nat) (w : World) (v : Value) (l : List POut) : Prop where
  row : w.ownsRow base 73 2 v l.length (outsCells l)
  ok : ∀ x ∈ l, OkOut x
theorem OutsOwn.at {base : Nat} {w : World} {a : Option Addr} {n c : Nat} {l : List POut} (h : OutsOwn base w (.slice a n c) l) {i : Nat} {x : POut} (hi : l[i]? = some x) :
    ∃ b, a = some ⟨b, 0, none⟩ ∧ base ≤ b ∧ b < w.heap.size ∧ w.cell? ⟨b, i * 2, none⟩ = some (.int .i64 x.val) ∧ w.cell? ⟨b, i * 2 + 1, none⟩ = some (.string x.script) := by
  obtain ⟨a', c', e, -, -⟩ := ownsRow_shape h.row
  obtain ⟨rfl, rfl, rfl⟩ : a = a' ∧ n = l.length ∧ c = c' := by simpa using e
  obtain ⟨b, rfl, h1, h2⟩ := ownsRow_some h.row (by have := (List.getElem?_eq_some_iff.1 hi).1; omega)
  refine ⟨b, rfl, h1, h2, ?_, ?_⟩
  · have := h.row.cells (g := b) rfl (i * 2 + 0) _ (flat_at outRow 2 outRow_len l i x hi 0 (by omega))
    simpa [Addr.add_lit] using this
  · have := h.row.cells (g := b) rfl (i * 2 + 1) _ (flat_at outRow 2 outRow_len l i x hi 1 (by omega))
    simpa [Addr.add_lit] using this
theorem OutsOwn.sl {base : Nat} {w : World} {v : Value} {l : List POut} (h : OutsOwn base w v l) : SlAt rpOut w v l := by
  obtain ⟨a, c, rfl, h1, h2⟩ := ownsRow_shape h.row
  refine ⟨a, c, rfl, h1, h2, fun i x hi => ?_⟩
  obtain ⟨b, rfl, hb, -, e0, e1⟩ := h.at hi
  refine ⟨b, 0, [.int .i64 x.val, .string x.script], rfl, rfl, fun j u hj => ?_, rfl, (h.ok x (List.mem_of_getElem? hi)).1, (h.ok x (List.mem_of_getElem? hi)).2⟩
  rw [show 0 + i * rpOut.size + j = i * 2 + j by simp [rpOut]]
  match j, hj with
  | 0, hj => simp at hj; subst hj; exact e0
  | 1, hj => simp at hj; subst hj; exact e1
theorem OutsOwn.kept {base : Nat} {w w' : World} {v : Value} {l : List POut} (h : OutsOwn base w v l) (hk : ∀ b, v.ownBlock = some b → w'.heap[b]? = w.heap[b]?) : OutsOwn base w' v l := ⟨ownsRow_of_block h.row hk, h.ok⟩
theorem OutsOwn.below {base : Nat} {w w' : World} {v : Value} {l : List POut} (h : OutsOwn base w v l) (hb : Below w.heap.size w w') : OutsOwn base w' v l := h.kept fun b hh => hb.block b (h.row.lt b hh).2
theorem OutsOwn.base {base base' : Nat} {w : World} {v : Value} {l : List POut} (h : OutsOwn base w v l) (hb : base' ≤ base) : OutsOwn base' w v l := ⟨ownsRow_base h.row hb, h.ok⟩
theorem outsOwn_nil (base : Nat) (w : World) : OutsOwn base w (.slice none 0 0) [] := ⟨World.ownsRow_nil _ _ _ _, fun i h => by simp at h⟩
theorem OutsOwn.set {base : Nat} {w : World} {b n c : Nat} {l : List POut} (h : OutsOwn base w (.slice (some ⟨b, 0, none⟩) n c) l) {i : Nat} {x x' : POut} (hi : l[i]? = some x) (j : Nat) (u : Value) (hj : j < 2) (hs : (outRow x).set j u = outRow x') (hok : OkOut x') :
    OutsOwn base (w.setCell ⟨b, i * 2 + j, none⟩ u) (.slice (some ⟨b, 0, none⟩) n c) (l.set i x') := by
  obtain ⟨a', c', e, -, -⟩ := ownsRow_shape h.row
  obtain ⟨-, rfl, rfl⟩ : some (⟨b, 0, none⟩ : Addr) = a' ∧ n = l.length ∧ c = c' := by simpa using e
  have hil : i < l.length := (List.getElem?_eq_some_iff.1 hi).1
  refine ⟨?_, fun y hy => ?_⟩
  · rw [List.length_set]
    have hx : outsCells (l.set i x') = (outsCells l).set (i * 2 + j) u := (flat_set outRow 2 outRow_len l i x x' hi j u hj hs).symm
    rw [hx]
    exact ownsRow_set h.row (by rw [outsCells_len]; omega) u
  · rcases List.mem_or_eq_of_mem_set hy with h1 | rfl
    · exact h.ok y h1
    · exact hok

/-- A whole transaction. -/
structure TxOwn (base : Nat) (w : World) (v : Value) (t : PTx) : Prop where
  is : ∃ vi vo ps, v = .agg #[.int .u32 t.ver, vi, vo, .int .u32 t.lock] ∧ t.ins = ps.map (·.1) ∧ InsOwn base w vi ps ∧ OutsOwn base w vo t.outs ∧ (∀ b, vo.ownBlock = some b → ¬ InsHas vi ps b)
  ver : t.ver < 4294967296
  lock : t.lock < 4294967296
theorem TxOwn.tx {base : Nat} {w : World} {v : Value} {t : PTx} (h : TxOwn base w v t) : TxAt w v t := by
  obtain ⟨⟨vi, vo, ps, rfl, hp, h1, h2, h3⟩, h4, h5⟩ := h
  exact ⟨vi, vo, rfl, hp ▸ h1.sl, h2.sl, h4, h5⟩
theorem TxOwn.below {base : Nat} {w w' : World} {v : Value} {t : PTx} (h : TxOwn base w v t) (hb : Below w.heap.size w w') : TxOwn base w' v t := by
  obtain ⟨⟨vi, vo, ps, rfl, hp, h1, h2, h3⟩, h4, h5⟩ := h
  exact ⟨⟨vi, vo, ps, rfl, hp, h1.below hb, h2.below hb, h3⟩, h4, h5⟩
theorem TxOwn.base {base base' : Nat} {w : World} {v : Value} {t : PTx} (h : TxOwn base w v t) (hb : base' ≤ base) : TxOwn base' w v t := by
  obtain ⟨⟨vi, vo, ps, rfl, hp, h1, h2, h3⟩, h4, h5⟩ := h
  exact ⟨⟨vi, vo, ps, rfl, hp, h1.base hb, h2.base hb, h3⟩, h4, h5⟩
theorem SlAt.outp {w : World} {a : Option Addr} {n c i : Nat} {xs : List POut} (h : SlAt rpOut w (.slice a n c) xs) (hi : i < n) : ∃ (b o : Nat) (x : POut), a = some ⟨b, o, none⟩ ∧ xs[i]? = some x ∧ OkOut x ∧
    w.cell? ⟨b, o + i * 2, none⟩ = some (.int .i64 x.val) ∧ w.cell? ⟨b, o + i * 2 + 1, none⟩ = some (.string x.script) := by
  obtain ⟨b, o, x, cs, h1, h2, h3, h4, h5, h6, h7⟩ := h.at hi
  subst h5
  exact ⟨b, o, x, h1, h2, ⟨h6, h7⟩, h4 0 _ rfl, h4 1 _ rfl⟩

end Go.Proofs.Ytfkcldaogfengaa
