/-
  A strings.Builder that a call has made itself: copyCheck and WriteString. Conditions: it lies in a block of the call's own; together no more than 2^47 bytes.
-/
import Derived.Test.YtelindgnkpfkiaaOct
import Derived.Test.YtelindgnkpfkiaaShelf
import Derived.Lib.Builder
namespace Go.Proofs.Ytelindgnkpfkiaa
open Go.RowKit
set_option linter.unusedVariables false

set_option maxHeartbeats 1000000 in
set_option maxRecDepth 100000 in
theorem check_used (b : Nat) (w : World) (h0 : w.cell? ⟨b, 0, none⟩ = some (.pointer (some ⟨b, 0, none⟩))) :
    Calls Try.prog 47 #[.pointer (some ⟨b, 0, none⟩)] w fun e w' => e = .returned (.tuple #[]) ∧ w = w' := by
  obtain ⟨j, hj, _⟩ := Option.map_eq_some_iff.1 (show (Try.prog.info? 103).map (·.size) = some 2 by kernel_rfl)
  have hne := Lib.run_neq_ptr_same (P := Try.prog) w ⟨b, 0, none⟩ Try.underlying101 hj
  go_enter Try.func47, Try.ntmps47
  go_wp2
  go_end0
  exact ⟨rfl, rfl⟩

set_option maxHeartbeats 1000000 in
set_option maxRecDepth 100000 in
theorem check_fresh (b : Nat) (w : World) (h0 : w.cell? ⟨b, 0, none⟩ = some (.pointer none)) (hsh : w.shape? b = some (103, 2)) (hfz : w.frozen? ⟨b, 0, none⟩ = false) :
    Calls Try.prog 47 #[.pointer (some ⟨b, 0, none⟩)] w fun e w' => e = .returned (.tuple #[]) ∧ w.setCell ⟨b, 0, none⟩ (.pointer (some ⟨b, 0, none⟩)) = w' := by
  obtain ⟨j, hj, hjs⟩ := Option.map_eq_some_iff.1 (show (Try.prog.info? 103).map (·.size) = some 2 by kernel_rfl)
  have h1 := Lib.run_to_unsafe (P := Try.prog) w ⟨b, 0, none⟩ Try.underlying101 Try.underlying118 hj (by rw [hjs]; decide) hsh (Nat.zero_lt_succ 1)
  have h2 := Lib.run_from_unsafe (P := Try.prog) w ⟨b, 0, none⟩ Try.underlying118 Try.underlying101 hj hsh (by kernel_rfl)
  have h3 := Lib.run_neq_ptr_same (P := Try.prog) (w.setCell ⟨b, 0, none⟩ (.pointer (some ⟨b, 0, none⟩))) ⟨b, 0, none⟩ Try.underlying101 hj
  have H1 := Lib.hid h1
  have H2 := Lib.hid h2
  have H3 := Lib.hid h3
  clear h1 h2 h3 hsh hj hjs
  go_enter Try.func47, Try.ntmps47
  go_wp2
  rw [H1.out]
  simp only [Result.andThen]
  rw [Oper.upon_value]
  go_wp2
  rw [run_callFunc_extern Try.func53 (by kernel_rfl) (by kernel_rfl) (by kernel_rfl) (e := Extern.AbiNoEscape.same) (by kernel_rfl)]
  rw [Lib.run_noEscape]
  simp only [Result.andThen]
  rw [Oper.upon_value]
  go_wp2
  rw [H2.out]
  simp only [Result.andThen]
  rw [Oper.upon_value]
  go_wp2
  go_end0
  exact ⟨rfl, rfl⟩

/-- copyCheck: behind it the builder is used, its bytes are as they were. -/
theorem bcheck_any (B b : Nat) (bs : List Value) (w : World) (h : Lib.IsBuilder 103 5 B b bs w) :
    Calls Try.prog 47 #[.pointer (some ⟨b, 0, none⟩)] w fun e w' => e = .returned (.tuple #[]) ∧ Lib.BuilderAt 103 5 B b (.pointer (some ⟨b, 0, none⟩)) bs w' ∧ Below B w w' := by
  rcases h with h | h
  · exact (check_fresh b w h.cell0 h.shape h.frozen0).mono fun e w' ⟨h1, h2⟩ => ⟨h1, h2 ▸ h.used _, h2 ▸ (Below.refl B w).setCell (p := ⟨b, 0, none⟩) h.1 _⟩
  · exact (check_used b w h.cell0).mono fun e w' ⟨h1, h2⟩ => ⟨h1, h2 ▸ h, h2 ▸ Below.refl B _⟩

set_option maxHeartbeats 1000000 in
set_option maxRecDepth 100000 in
theorem bwrite_any (B b : Nat) (l : List UInt8) (s : ByteArray) (w : World) (h : Lib.IsBuilder 103 5 B b (bytesOf l) w) (hlen : l.length + s.size ≤ 140737488355328) (hBw : B ≤ w.heap.size) :
    Calls Try.prog 38 #[.pointer (some ⟨b, 0, none⟩), .string s] w fun e w' => e = .returned (.tuple #[.int .i64 s.size, .nilIface]) ∧
      Lib.IsBuilder 103 5 B b (bytesOf (l ++ s.data.toList)) w' ∧ Below B w w' := by
  obtain ⟨i0, hi, hz0, hz1, hz2⟩ := info_parts info_u8
  have HC := Lib.hid (bcheck_any B b (bytesOf l) w h)
  have HL := Lib.hid hlen
  clear h hlen
  go_enter Try.func38, Try.ntmps38
  go_wp2_with fail
  refine HC.out.mono ?_
  rintro e w1 ⟨rfl, hb1, hbl⟩
  obtain ⟨hB, v, hbk, hown, hne⟩ := hb1
  have hlt := (Array.getElem?_eq_some_iff.1 hbk).1
  rw [bytesOf_length] at hown
  obtain ⟨a, c, rfl, -, -⟩ := ownsRow_shape hown
  obtain ⟨v', w2, hrun, hown', hgrow, hnew⟩ := append_own_src (P := Try.prog) w1 B 88 9 88 5 i0 _ 1 1 Try.underlying88 hi hz0 hz1 hz2 rfl _ _ _ hown (.string s) s.size (byteCells s) (Src.ofString w1 Try.underlying9 s)
    (by rw [maxLen_eq]; have := HL.out; omega) (by have := HL.out; omega) (Nat.le_trans hBw hbl.size)
  obtain ⟨a', c', rfl, -, -⟩ := ownsRow_shape hown'
  have hb2 : w2.heap[b]? = _ := (hgrow.block b hlt (fun e => hne e.symm)).trans hbk
  have h1 : w1.cell? ⟨b, 1, none⟩ = some (.slice a l.length c) := cell_at hbk
  have h2 : w2.cell? ⟨b, 1, none⟩ = some (.slice a l.length c) := cell_at hb2
  have h3 : w2.frozen? ⟨b, 1, none⟩ = false := free_at hb2
  have hne' : (Value.slice a' (l.length + s.size) c').ownBlock ≠ some b := by
    rcases hnew with e | e
    · rw [e]; exact hne
    · rw [e]; intro e'; cases e'; exact absurd hlt (Nat.lt_irrefl _)
  have hfin : Lib.IsBuilder 103 5 B b (bytesOf (l ++ s.data.toList)) (w2.setCell ⟨b, 1, none⟩ (.slice a' (l.length + s.size) c')) ∧ Below B w (w2.setCell ⟨b, 1, none⟩ (.slice a' (l.length + s.size) c')) := by
    refine ⟨.inr ⟨hB, _, heap_setCell_at hb2, ?_, hne'⟩, (hbl.grown hgrow (Nat.le_trans hBw hbl.size) (fun k e => (hown.lt k e).1)).setCell (p := ⟨b, 1, none⟩) hB _⟩
    rw [bytesOf_length, List.length_append, data_len, bytesOf_append, ← byteCells_eq]
    exact ownsRow_of_block hown' fun k e => Below.heap_setCell _ _ _ _ (fun e' => hne' (by rw [e, e']))
  have HF := Lib.hid hfin
  have HR := Lib.hid hrun
  clear hfin hrun hown' hgrow hnew hbk hb2 hne hne' hown hi hz0 hz1 hz2
  go_wp2_with (at_builtin; refine wpList_append_run rfl (.tmp 12) (.tmp 13) 88 9 rfl rfl rfl HR.out ?_)
  go_ret2
  exact ⟨rfl, HF.out⟩

theorem isb_later {T e B b : Nat} {bs : List Value} {w w' : World} (h : Lib.IsBuilder T e B b bs w) (hb : Below w.heap.size w w') : Lib.IsBuilder T e B b bs w' := by
  have key : ∀ p, Lib.BuilderAt T e B b p bs w → Lib.BuilderAt T e B b p bs w' := fun p ⟨hB, v, hbk, hown, hne⟩ =>
    ⟨hB, v, by rw [hb.block b (Array.getElem?_eq_some_iff.1 hbk).1]; exact hbk, ownsRow_below hown hb, hne⟩
  exact h.imp (key _) (key _)
theorem isb_new (T e : Nat) (w : World) : Lib.IsBuilder T e w.heap.size w.heap.size [] (w.alloc (.cells #[.pointer none, .slice none 0 0] T)) :=
  .inl ⟨Nat.le_refl _, .slice none 0 0, heap_alloc_new w _, World.ownsRow_nil _ _ _ _, by simp [Value.ownBlock]⟩
theorem isb_lt {T e B b : Nat} {bs : List Value} {w : World} (h : Lib.IsBuilder T e B b bs w) : B ≤ b ∧ b < w.heap.size := by
  rcases h with h | h <;> exact ⟨h.1, h.lt⟩

theorem byteCells_same (l : List UInt8) : Lib.byteCells l = bytesOf l := rfl
theorem bstring_any (B b : Nat) (l : List UInt8) (w : World) (h : Lib.IsBuilder 103 5 B b (bytesOf l) w) (hBw : B ≤ w.heap.size) :
    Calls Try.prog 40 #[.pointer (some ⟨b, 0, none⟩)] w fun e w' => e = .returned (.string ⟨l.toArray⟩) ∧ Below B w w' :=
  Try.Builder_String_any B b l w h hBw

end Go.Proofs.Ytelindgnkpfkiaa
