/-
  strings.Builder's WriteString, once more: all blocks but the builder's own stay. Conditions: those of bwrite_any.
-/
import Derived.Test.YtmcknjldimnaoaaShaB
namespace Go.Proofs.Ytmcknjldimnaoaa
open Go.RowKit
set_option linter.unusedVariables false

/-- The builder's row is another block. -/
def RowNot (b X : Nat) (w : World) : Prop := ∀ (p v : Value) (T : TypeId) (f : Nat × Nat), w.heap[b]? = some (.cells #[p, v] T f) → v.ownBlock ≠ some X
/-- What isn't the builder's own stays. -/
def BKeep (b : Nat) (w w' : World) : Prop := ∀ X, X ≠ b → X < w.heap.size → RowNot b X w → w'.heap[X]? = w.heap[X]? ∧ RowNot b X w' ∧ X < w'.heap.size
theorem BKeep.refl (b : Nat) (w : World) : BKeep b w w := fun X h1 h2 h3 => ⟨rfl, h3, h2⟩
theorem BKeep.trans {b : Nat} {w1 w2 w3 : World} (h : BKeep b w1 w2) (k : BKeep b w2 w3) : BKeep b w1 w3 := fun X h1 h2 h3 => by
  obtain ⟨e1, r1, l1⟩ := h X h1 h2 h3
  obtain ⟨e2, r2, l2⟩ := k X h1 l1 r1
  exact ⟨e2.trans e1, r2, l2⟩
theorem BKeep.of_below {b : Nat} {w w' : World} (h : Below w.heap.size w w') (hb : b < w.heap.size) : BKeep b w w' := fun X h1 h2 h3 =>
  ⟨h.block X h2, fun p v T f e => h3 p v T f (by rw [← h.block b hb]; exact e), Nat.lt_of_lt_of_le h2 h.size⟩
theorem bcheck_x (B b : Nat) (bs : List Value) (w : World) (h : Lib.IsBuilder 95 5 B b bs w) :
    Calls Try.prog 103 #[.pointer (some ⟨b, 0, none⟩)] w fun e w' => e = .returned (.tuple #[]) ∧ Lib.BuilderAt 95 5 B b (.pointer (some ⟨b, 0, none⟩)) bs w' ∧ Below B w w' ∧ BKeep b w w' := by
  rcases h with h | h
  · refine (check_fresh b w h.cell0 h.shape h.frozen0).mono fun e w' ⟨h1, h2⟩ => ⟨h1, h2 ▸ h.used _, h2 ▸ (Below.refl B w).setCell (p := ⟨b, 0, none⟩) h.1 _, ?_⟩
    subst h2
    obtain ⟨hB, v, hbk, hown, hne⟩ := h
    intro X hX hl hr
    refine ⟨Below.heap_setCell _ _ _ _ hX, fun p v' T f e => ?_, by rw [World.size_setCell]; exact hl⟩
    rw [heap_setCell_at hbk] at e
    have e2 := Option.some.inj e
    injection e2 with e3 e4
    have e5 : v' = v := by
      have := congrArg (fun a => a.toList) e3
      simp at this
      exact this.2.symm
    subst e5
    exact hr _ _ _ _ hbk
  · exact (check_used b w h.cell0).mono fun e w' ⟨h1, h2⟩ => ⟨h1, h2 ▸ h, h2 ▸ Below.refl B _, h2 ▸ BKeep.refl b _⟩

set_option maxHeartbeats 1000000 in
set_option maxRecDepth 100000 in
theorem bwrite_x (B b : Nat) (l : List UInt8) (s : ByteArray) (w : World) (h : Lib.IsBuilder 95 5 B b (bytesOf l) w) (hlen : l.length + s.size ≤ 140737488355328) (hBw : B ≤ w.heap.size) :
    Calls Try.prog 65 #[.pointer (some ⟨b, 0, none⟩), .string s] w fun e w' => e = .returned (.tuple #[.int .i64 s.size, .nilIface]) ∧
      Lib.IsBuilder 95 5 B b (bytesOf (l ++ s.data.toList)) w' ∧ Below B w w' ∧ BKeep b w w' := by
  obtain ⟨i0, hi, hz0, hz1, hz2⟩ := info_parts info_u8b
  have HC := Lib.hid (bcheck_x B b (bytesOf l) w h)
  have HL := Lib.hid hlen
  clear h hlen
  go_enter Try.func65, Try.ntmps65
  go_wp2_with fail
  refine HC.out.mono ?_
  rintro e w1 ⟨rfl, hb1, hbl, hbk1⟩
  obtain ⟨hB, v, hbk, hown, hne⟩ := hb1
  have hlt := (Array.getElem?_eq_some_iff.1 hbk).1
  rw [bytesOf_length] at hown
  obtain ⟨a, c, rfl, -, -⟩ := ownsRow_shape hown
  obtain ⟨v', w2, hrun, hown', hgrow, hnew⟩ := append_own_src (P := Try.prog) w1 B 90 9 90 5 i0 _ 1 1 Try.underlying90 hi hz0 hz1 hz2 rfl _ _ _ hown (.string s) s.size (byteCells s) (Src.ofString w1 Try.underlying9 s)
    (by rw [maxLen_eq]; have := HL.out; omega) (by have := HL.out; omega) (Nat.le_trans hBw hbl.size)
  obtain ⟨a', c', rfl, -, -⟩ := ownsRow_shape hown'
  have hb2 : w2.heap[b]? = _ := (hgrow.block b hlt (fun e => hne e.symm)).trans hbk
  have h1 : w1.cell? ⟨b, 1, none⟩ = some (.slice a l.length c) := cell_at hbk
  have h2 : w2.cell? ⟨b, 1, none⟩ = some (.slice a l.length c) := cell_at hb2
  have h3 : w2.frozen? ⟨b, 1, none⟩ = false := free_at hb2
  have hne' : (Value.slice a' (l.length + s.size) c').ownBlock ≠ some b := by
    rcases hnew with e | e
    · rw [e]; exact hne
    · rw [e]; intro e'; cases e'; exact absurd hlt (Nat.lt_irrefl _)
  have hkp : BKeep b w (w2.setCell ⟨b, 1, none⟩ (.slice a' (l.length + s.size) c')) := by
    refine hbk1.trans fun X hX hl hr => ?_
    have hrX := hr _ _ _ _ hbk
    refine ⟨(Below.heap_setCell _ _ _ _ hX).trans (hgrow.block X hl (fun e => hrX e.symm)), fun p v T f e => ?_, by rw [World.size_setCell]; exact Nat.lt_of_lt_of_le hl hgrow.size⟩
    rw [heap_setCell_at hb2] at e
    have e2 := Option.some.inj e
    injection e2 with e3 e4
    have e5 : v = .slice a' (l.length + s.size) c' := by
      have := congrArg (fun a => a.toList) e3
      simp at this
      exact this.2.symm
    subst e5
    rcases hnew with e | e
    · rw [e]; exact hrX
    · rw [e]; intro e'; cases e'; exact absurd hl (Nat.lt_irrefl _)
  have hfin : Lib.IsBuilder 95 5 B b (bytesOf (l ++ s.data.toList)) (w2.setCell ⟨b, 1, none⟩ (.slice a' (l.length + s.size) c')) ∧ Below B w (w2.setCell ⟨b, 1, none⟩ (.slice a' (l.length + s.size) c')) ∧ BKeep b w (w2.setCell ⟨b, 1, none⟩ (.slice a' (l.length + s.size) c')) := by
    refine ⟨.inr ⟨hB, _, heap_setCell_at hb2, ?_, hne'⟩, (hbl.grown hgrow (Nat.le_trans hBw hbl.size) (fun k e => (hown.lt k e).1)).setCell (p := ⟨b, 1, none⟩) hB _, hkp⟩
    rw [bytesOf_length, List.length_append, data_len, bytesOf_append, ← byteCells_eq]
    exact ownsRow_of_block hown' fun k e => Below.heap_setCell _ _ _ _ (fun e' => hne' (by rw [e, e']))
  have HF := Lib.hid hfin
  have HR := Lib.hid hrun
  clear hfin hrun hown' hgrow hnew hbk hb2 hne hne' hown hi hz0 hz1 hz2 hkp hbk1
  go_wp2_with (at_builtin; refine wpList_append_run rfl (.tmp 12) (.tmp 13) 90 9 rfl rfl rfl HR.out ?_)
  go_ret2
  exact ⟨rfl, HF.out⟩
/-- A block that is made behind the builder isn't the builder's row. -/
theorem rowNot_new {T e B b : Nat} {bs : List Value} {w : World} {X : Nat} (h : Lib.IsBuilder T e B b bs w) (hX : w.heap.size ≤ X) : RowNot b X w := by
  intro p v T' f e' hv
  have key : ∀ q, Lib.BuilderAt T e B b q bs w → False := by
    rintro q ⟨-, v', hbk, hown, -⟩
    rw [hbk] at e'
    have e2 := Option.some.inj e'
    injection e2 with e3 e4
    have e5 : v' = v := by
      have := congrArg (fun a => a.toList) e3
      simp at this
      exact this.2
    subst e5
    have := (hown.lt X hv).2
    omega
  rcases h with h | h
  · exact key _ h
  · exact key _ h
theorem rowNot_new' {T e B b : Nat} {bs : List Value} {w w' : World} {X : Nat} (h : Lib.IsBuilder T e B b bs w) (hb : Below w.heap.size w w') (hX : w.heap.size ≤ X) (hlt : b < w.heap.size) : RowNot b X w' := fun p v T' f e =>
  rowNot_new h hX p v T' f (by rw [← hb.block b hlt]; exact e)
end Go.Proofs.Ytmcknjldimnaoaa
