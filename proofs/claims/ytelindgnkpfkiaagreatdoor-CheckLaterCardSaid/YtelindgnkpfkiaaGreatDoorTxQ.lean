/-
  The document's Same. Conditions: none beyond each theorem's own.
-/
import Derived.Test.YtelindgnkpfkiaaGreatDoorTxH
namespace Go.Proofs.YtelindgnkpfkiaaGreatDoor
open Go.RowKit Go.BigFrame
set_option linter.unusedVariables false
set_option linter.unusedSimpArgs false

noncomputable def sameTx (t u : PTx) : Bool := @decide (t = u) (Classical.propDecidable _)
theorem same_yes {t u : PTx} (h : t = u) : sameTx t u = true := @decide_eq_true _ (Classical.propDecidable _) h
theorem same_no {t u : PTx} (h : t ≠ u) : sameTx t u = false := @decide_eq_false _ (Classical.propDecidable _) h

/-- The call's boxes of two transactions. -/
structure T2 (w : World) (va vo vc vq : Value) (t u : PTx) (wr : World) : Prop where
  bel : Below w.heap.size w wr
  box1 : wr.heap[w.heap.size]? = some (.cells #[.int .u32 t.ver, va, vo, .int .u32 t.lock] 35 (0, 0))
  box2 : wr.heap[w.heap.size + 1]? = some (.cells #[.int .u32 u.ver, vc, vq, .int .u32 u.lock] 35 (0, 0))
  ins1 : SlAt rpIn wr va t.ins
  outs1 : SlAt rpOut wr vo t.outs
  ins2 : SlAt rpIn wr vc u.ins
  outs2 : SlAt rpOut wr vq u.outs
theorem T2.next {w wr w' : World} {va vo vc vq : Value} {t u : PTx} (h : T2 w va vo vc vq t u wr) (hb : Below wr.heap.size wr w') : T2 w va vo vc vq t u w' :=
  ⟨h.bel.trans (hb.mono h.bel.size), by rw [hb.block _ (Array.getElem?_eq_some_iff.1 h.box1).1]; exact h.box1, by rw [hb.block _ (Array.getElem?_eq_some_iff.1 h.box2).1]; exact h.box2, h.ins1.below hb, h.outs1.below hb, h.ins2.below hb, h.outs2.below hb⟩
theorem T2.start {w : World} {va vo vc vq : Value} {t u : PTx} (h1 : SlAt rpIn w va t.ins) (h2 : SlAt rpOut w vo t.outs) (h3 : SlAt rpIn w vc u.ins) (h4 : SlAt rpOut w vq u.outs) :
    T2 w va vo vc vq t u ((w.alloc (.cells #[.int .u32 t.ver, va, vo, .int .u32 t.lock] 35)).alloc (.cells #[.int .u32 u.ver, vc, vq, .int .u32 u.lock] 35)) := by
  have s1 : (w.alloc (.cells #[.int .u32 t.ver, va, vo, .int .u32 t.lock] 35)).heap.size = w.heap.size + 1 := by simp
  have hb : Below w.heap.size w ((w.alloc (.cells #[.int .u32 t.ver, va, vo, .int .u32 t.lock] 35)).alloc (.cells #[.int .u32 u.ver, vc, vq, .int .u32 u.lock] 35)) :=
    ((Below.refl _ _).alloc (Nat.le_refl _) _).alloc (by rw [s1]; omega) _
  refine ⟨hb, ?_, ?_, h1.below hb, h2.below hb, h3.below hb, h4.below hb⟩
  · rw [Below.heap_alloc _ _ _ (by rw [s1]; omega)]
    exact heap_alloc_new w _
  · rw [← s1]
    exact heap_alloc_new _ _
theorem tx_same {t u : PTx} (h1 : t.ver = u.ver) (h2 : t.ins = u.ins) (h3 : t.outs = u.outs) (h4 : t.lock = u.lock) : t = u := by
  cases t; cases u; simp only at h1 h2 h3 h4; rw [h1, h2, h3, h4]
theorem in_same {t u : PIn} (h1 : t.id = u.id) (h2 : t.idx = u.idx) (h3 : t.seq = u.seq) (h4 : t.wit = u.wit) : t = u := by
  cases t; cases u; simp only at h1 h2 h3 h4; rw [h1, h2, h3, h4]
theorem out_same {t u : POut} (h1 : t.val = u.val) (h2 : t.script = u.script) : t = u := by
  cases t; cases u; simp only at h1 h2; rw [h1, h2]
theorem list_same {α : Type} {xs ys : List α} (hl : xs.length = ys.length) (h : ∀ (j : Nat) (x y : α), j < xs.length → xs[j]? = some x → ys[j]? = some y → x = y) : xs = ys := by
  apply List.ext_getElem hl
  intro i h1 h2
  exact h i _ _ h1 (List.getElem?_eq_getElem h1) (List.getElem?_eq_getElem h2)
theorem same_step {α : Type} {xs ys : List α} {k : Nat} {x y : α} (h : ∀ (j : Nat) (x y : α), j < k → xs[j]? = some x → ys[j]? = some y → x = y) (hx : xs[k]? = some x) (hy : ys[k]? = some y) (he : x = y) : ∀ (j : Nat) (x y : α), j < k + 1 → xs[j]? = some x → ys[j]? = some y → x = y := by
  intro j x' y' hj hx' hy'
  rcases Nat.lt_or_ge j k with h1 | h1
  · exact h j x' y' h1 hx' hy'
  · obtain rfl : j = k := by omega
    rw [hx] at hx'
    rw [hy] at hy'
    obtain rfl := Option.some.inj hx'
    obtain rfl := Option.some.inj hy'
    exact he
theorem ne_at {α : Type} {xs ys : List α} {k : Nat} {x y : α} (hx : xs[k]? = some x) (hy : ys[k]? = some y) (hne : x ≠ y) : xs ≠ ys := by
  rintro rfl
  rw [hx] at hy
  exact hne (Option.some.inj hy)
theorem bytes_ne {a b : ByteArray} (h : a ≠ b) : (a.toList == b.toList) = false := by
  rw [ByteArray.toList_eq, ByteArray.toList_eq, beq_eq_false_iff_ne]
  intro h'
  apply h
  cases a; cases b
  simp at h'
  rw [h']
theorem bytes_ne' {a b : ByteArray} (h : a ≠ b) : (a.toList != b.toList) = true := by
  rw [bne, bytes_ne h]; rfl

end Go.Proofs.YtelindgnkpfkiaaGreatDoor
