/-
  slices.Clone of strings and of Ins. Conditions: no more than a thousand elements.
-/
import Derived.Test.YtelindgnkpfkiaaGreatDoorTxQ
namespace Go.Proofs.YtelindgnkpfkiaaGreatDoor
open Go.RowKit Go.BigFrame
set_option linter.unusedVariables false
set_option linter.unusedSimpArgs false

/-- The cells of a slice's elements, wherever they stand. -/
def RowAt (w : World) (v : Value) (n size : Nat) (cells : List Value) : Prop := ∃ a c, v = .slice a n c ∧ n ≤ c ∧ c ≤ maxLen ∧ cells.length = n * size ∧ (a = none → n = 0) ∧ ∀ ad, a = some ad → ∀ j u, cells[j]? = some u → w.cell? (ad.add j) = some u
theorem RowAt.mono {w w' : World} {v : Value} {n size : Nat} {cells : List Value} (h : RowAt w v n size cells) (hw : ∀ p v, w.cell? p = some v → w'.cell? p = some v) : RowAt w' v n size cells := by
  obtain ⟨a, c, h1, h2, h3, h4, h5, h6⟩ := h
  exact ⟨a, c, h1, h2, h3, h4, h5, fun ad e j u hj => hw _ _ (h6 ad e j u hj)⟩
theorem RowAt.below {w w' : World} {v : Value} {n size : Nat} {cells : List Value} (h : RowAt w v n size cells) (hb : Below w.heap.size w w') : RowAt w' v n size cells := h.mono (below_cells hb)
theorem row_of_strs {w : World} {v : Value} {l : List ByteArray} (h : SlAt rpStr w v l) : RowAt w v l.length 1 (strCells l) ∧ okStrs l := by
  obtain ⟨a, c, rfl, h1, h2⟩ := h.shape
  have hat : ∀ j, j < l.length → ∃ (b o : Nat) (x : ByteArray), a = some ⟨b, o, none⟩ ∧ l[j]? = some x ∧ x.size ≤ maxLen ∧ w.cell? ⟨b, o + j, none⟩ = some (.string x) := by
    intro j hj
    obtain ⟨b, o, x, e1, e2, e3, e4⟩ := h.str hj
    exact ⟨b, o, x, e1, e2, e3, e4⟩
  refine ⟨⟨a, c, rfl, h1, h2, by rw [strCells_len, Nat.mul_one], fun e => ?_, fun ad e j u hj => ?_⟩, fun s hs => ?_⟩
  · rcases Nat.eq_zero_or_pos l.length with h0 | h0
    · exact h0
    · obtain ⟨b, o, x, e1, -⟩ := hat 0 h0
      rw [e] at e1
      cases e1
  · have hjl : j < l.length := by have := (List.getElem?_eq_some_iff.1 hj).1; rw [strCells_len] at this; exact this
    obtain ⟨b, o, x, e1, e2, e3, e4⟩ := hat j hjl
    rw [e] at e1
    obtain rfl := Option.some.inj e1
    rw [Addr.add_lit, e4]
    simpa [strCells, e2] using hj
  · obtain ⟨i, hi⟩ := List.mem_iff_getElem?.1 hs
    obtain ⟨b, o, x, e1, e2, e3, e4⟩ := hat i (List.getElem?_eq_some_iff.1 hi).1
    rw [hi] at e2
    obtain rfl := Option.some.inj e2
    exact e3
theorem strs_oneCell (l : List ByteArray) : ∀ u ∈ strCells l, u.oneCell' = true := by
  intro u hu
  unfold strCells at hu
  obtain ⟨x, -, rfl⟩ := List.mem_map.1 hu
  rfl
/-- Ins with the values of their witnesses, which lie anywhere. -/
structure InsSrc (w : World) (v : Value) (ins : List PIn) (ps : List (PIn × Value)) : Prop where
  is : ps.map (·.1) = ins
  row : RowAt w v ps.length 4 (insCells ps)
  wit : ∀ (i : Nat) (p : PIn × Value), ps[i]? = some p → SlAt rpStr w p.2 p.1.wit
  ok : ∀ (i : Nat) (p : PIn × Value), ps[i]? = some p → OkIn p.1
theorem InsSrc.below {w w' : World} {v : Value} {ins : List PIn} {ps : List (PIn × Value)} (h : InsSrc w v ins ps) (hb : Below w.heap.size w w') : InsSrc w' v ins ps :=
  ⟨h.is, h.row.below hb, fun i p hp => (h.wit i p hp).below hb, h.ok⟩
theorem InsSrc.len {w : World} {v : Value} {ins : List PIn} {ps : List (PIn × Value)} (h : InsSrc w v ins ps) : ps.length = ins.length := by rw [← h.is, List.length_map]
theorem InsSrc.one {w : World} {v : Value} {ins : List PIn} {ps : List (PIn × Value)} (h : InsSrc w v ins ps) : ∀ u ∈ insCells ps, u.oneCell' = true := by
  intro u hu
  unfold insCells at hu
  rw [List.mem_flatMap] at hu
  obtain ⟨p, hp, hx⟩ := hu
  obtain ⟨i, hi⟩ := List.mem_iff_getElem?.1 hp
  obtain ⟨a, c, e, -, -⟩ := (h.wit i p hi).shape
  simp only [inRow, List.mem_cons, List.not_mem_nil, or_false] at hx
  rcases hx with rfl | rfl | rfl | rfl
  · rfl
  · rfl
  · rfl
  · rw [e]; rfl
theorem src_of_ins {w : World} {v : Value} {l : List PIn} (h : SlAt rpIn w v l) : ∃ ps, InsSrc w v l ps := by
  obtain ⟨a, c, rfl, h1, h2⟩ := h.shape
  obtain ⟨ps, hpl, hps⟩ := list_of_each (len := l.length) (Q := fun i (p : PIn × Value) => ∃ b o, a = some ⟨b, o, none⟩ ∧ l[i]? = some p.1 ∧ SlAt rpStr w p.2 p.1.wit ∧ OkIn p.1 ∧
      ∀ j u, (inRow p)[j]? = some u → w.cell? ⟨b, o + i * 4 + j, none⟩ = some u) (fun i hi => by
    obtain ⟨b, o, x, wv, e1, e2, e3, e4, e5, e6, d0, d1, d2, d3⟩ := h.inp hi
    refine ⟨(x, wv), b, o, e1, e2, e6, ⟨e5, e4, e3, (row_of_strs e6).2⟩, fun j u hj => ?_⟩
    match j, hj with
    | 0, hj => obtain rfl := Option.some.inj hj; exact d0
    | 1, hj => obtain rfl := Option.some.inj hj; exact d1
    | 2, hj => obtain rfl := Option.some.inj hj; exact d2
    | 3, hj => obtain rfl := Option.some.inj hj; exact d3)
  have hat : ∀ i, i < ps.length → ∃ p, ps[i]? = some p := fun i hi => ⟨_, List.getElem?_eq_getElem hi⟩
  refine ⟨ps, ?_, ⟨a, c, by rw [hpl], by omega, h2, insCells_len ps, fun e => ?_, fun ad e j u hj => ?_⟩, fun i p hp => ?_, fun i p hp => ?_⟩
  · apply List.ext_getElem?
    intro i
    rw [List.getElem?_map]
    rcases Nat.lt_or_ge i ps.length with hi | hi
    · obtain ⟨p, hp⟩ := hat i hi
      obtain ⟨_, _, _, e, _⟩ := hps i p hp
      rw [hp, e]
      rfl
    · rw [List.getElem?_eq_none hi, List.getElem?_eq_none (by omega)]
      rfl
  · rcases Nat.eq_zero_or_pos ps.length with h0 | h0
    · exact h0
    · obtain ⟨p, hp⟩ := hat 0 h0
      obtain ⟨_, _, e1, _⟩ := hps 0 p hp
      rw [e] at e1
      cases e1
  · have hjl : j < ps.length * 4 := by have := (List.getElem?_eq_some_iff.1 hj).1; rw [insCells_len] at this; exact this
    obtain ⟨p, hp⟩ := hat (j / 4) (by omega)
    obtain ⟨b, o, e1, -, -, -, e5⟩ := hps (j / 4) p hp
    rw [e] at e1
    obtain rfl := Option.some.inj e1
    have e2 := flat_at inRow 4 inRow_len ps (j / 4) p hp (j % 4) (Nat.mod_lt _ (by omega))
    rw [show j / 4 * 4 + j % 4 = j by omega] at e2
    unfold insCells at hj
    rw [e2] at hj
    have := e5 (j % 4) u hj
    rw [Addr.add_lit, ← this]
    congr 2
    omega
  · obtain ⟨_, _, _, _, e, _⟩ := hps i p hp
    exact e
  · obtain ⟨_, _, _, _, _, e, _⟩ := hps i p hp
    exact e

theorem two_boxes (w : World) (A B : Array Value) (t : TypeId) : Below w.heap.size w ((w.alloc (.cells A t)).alloc (.cells B t)) ∧ ((w.alloc (.cells A t)).alloc (.cells B t)).heap[w.heap.size]? = some (.cells A t (0, 0)) ∧
    ((w.alloc (.cells A t)).alloc (.cells B t)).heap[w.heap.size + 1]? = some (.cells B t (0, 0)) := by
  have s1 : (w.alloc (.cells A t)).heap.size = w.heap.size + 1 := by simp
  refine ⟨((Below.refl _ _).alloc (Nat.le_refl _) _).alloc (by rw [s1]; omega) _, ?_, ?_⟩
  · rw [Below.heap_alloc _ _ _ (by rw [s1]; omega)]
    exact heap_alloc_new w _
  · rw [← s1]
    exact heap_alloc_new _ _
theorem below_drewN (w : World) : ∀ n, Below w.heap.size w (w.drewN n) := fun n => by
  induction n with
  | zero => exact Below.refl _ _
  | succ n ih => exact ih.drew
/-- A copy in a row of the call's own. -/
def ClIs (e size n : Nat) (cells : List Value) (w : World) (en : Ending) (w' : World) : Prop := ∃ v, en = .returned v ∧ w'.ownsRow w.heap.size e size v n cells ∧ Below w.heap.size w w'
set_option maxRecDepth 100000 in
set_option maxHeartbeats 1000000 in
theorem clStr_row (v : Value) (n : Nat) (cells : List Value) (w : World) (hv : RowAt w v n 1 cells) (hone : ∀ u ∈ cells, u.oneCell' = true) (hlen : n ≤ 1000) : Calls Tryz.prog 58 #[v] w (ClIs 9 1 n cells w) := by
  obtain ⟨a, c, rfl, hl1, hl2, hcl, hno, hcs⟩ := hv
  rw [maxLen_eq] at hl2
  by_cases hnil : a = none
  · subst hnil
    obtain rfl := hno rfl
    have hc0 : cells = [] := List.eq_nil_of_length_eq_zero (by omega)
    subst hc0
    have HF := Lib.hid (show ClIs 9 1 0 [] w (.returned (.slice none 0 0)) w from ⟨_, rfl, World.ownsRow_nil _ _ _ _, Below.refl _ _⟩)
    have heq : ∀ w : World, (binOp .eql 54 (.slice none 0 c) (.slice none 0 0)).run Tryz.prog w = .ok (.bool true) w := fun w => by kernel_rfl
    clear hone hcs hcl hno
    go_enter Tryz.func58, Tryz.ntmps58
    go_wp2_with fail
    go_ret
    exact HF.out
  · obtain ⟨ad, rfl⟩ := Option.ne_none_iff_exists'.1 hnil
    clear hnil hno
    have heq : ∀ w : World, (binOp .eql 54 (.slice (some ad) n c) (.slice none 0 0)).run Tryz.prog w = .ok (.bool false) w := fun w => by kernel_rfl
    have hc2 := hcs ad rfl
    obtain ⟨i0, hi, hz0, hz1, hz2⟩ := info_parts info_str
    have hal : Below w.heap.size w (w.alloc (.cells #[] 9)) := (Below.refl _ _).alloc (Nat.le_refl _) _
    have hrow : (w.alloc (.cells #[] 9)).ownsRow w.heap.size 9 1 (.slice (some ⟨w.heap.size, 0, none⟩) 0 0) 0 [] :=
      ⟨rfl, .inr ⟨w.heap.size, 0, #[], rfl, Nat.le_refl _, heap_alloc_new w _, Nat.le_refl _, Nat.zero_le _, rfl, rfl⟩⟩
    obtain ⟨v', w', hrun, hown, hg, -⟩ := append_own_src (P := Tryz.prog) (w.alloc (.cells #[] 9)) w.heap.size 54 54 54 9 i0 _ 1 16 Tryz.underlying54 hi hz0 hz1 hz2 rfl _ 0 [] hrow (.slice (some ad) n c) n cells
      (Src.ofSlice _ Tryz.underlying54 ad n c cells hcl (fun j u h => below_cells hal _ _ (hc2 j u h)) hone) (by rw [maxLen_eq]; omega) (by omega) hal.size
    have HF := Lib.hid (show ClIs 9 1 n cells w (.returned v') w' from by
      refine ⟨_, rfl, ?_, hal.grown hg hal.size (fun k h => by cases h; exact Nat.le_refl _)⟩
      rw [Nat.zero_add, List.nil_append] at hown
      exact hown)
    have HR := Lib.hid hrun
    clear hrun hown hg hrow hal hi hz0 hz1 hz2 hcs hc2 hone hcl
    go_enter Tryz.func58, Tryz.ntmps58
    go_wp2_with (at_builtin; refine wpList_append_run rfl (.tmp 5) (.tmp 6) 54 54 rfl rfl rfl HR.out ?_)
    go_ret
    exact HF.out
set_option maxRecDepth 100000 in
set_option maxHeartbeats 1000000 in
theorem clIn_row (v : Value) (n : Nat) (cells : List Value) (w : World) (hv : RowAt w v n 4 cells) (hone : ∀ u ∈ cells, u.oneCell' = true) (hlen : n ≤ 1000) : Calls Tryz.prog 56 #[v] w (ClIs 56 4 n cells w) := by
  obtain ⟨a, c, rfl, hl1, hl2, hcl, hno, hcs⟩ := hv
  rw [maxLen_eq] at hl2
  by_cases hnil : a = none
  · subst hnil
    obtain rfl := hno rfl
    have hc0 : cells = [] := List.eq_nil_of_length_eq_zero (by omega)
    subst hc0
    have HF := Lib.hid (show ClIs 56 4 0 [] w (.returned (.slice none 0 0)) w from ⟨_, rfl, World.ownsRow_nil _ _ _ _, Below.refl _ _⟩)
    have heq : ∀ w : World, (binOp .eql 33 (.slice none 0 c) (.slice none 0 0)).run Tryz.prog w = .ok (.bool true) w := fun w => by kernel_rfl
    clear hone hcs hcl hno
    go_enter Tryz.func56, Tryz.ntmps56
    go_wp2_with fail
    go_ret
    exact HF.out
  · obtain ⟨ad, rfl⟩ := Option.ne_none_iff_exists'.1 hnil
    clear hnil hno
    have heq : ∀ w : World, (binOp .eql 33 (.slice (some ad) n c) (.slice none 0 0)).run Tryz.prog w = .ok (.bool false) w := fun w => by kernel_rfl
    have hc2 := hcs ad rfl
    obtain ⟨i0, hi, hz0, hz1, hz2⟩ := info_parts info_in
    have hal : Below w.heap.size w (w.alloc (.cells #[] 56)) := (Below.refl _ _).alloc (Nat.le_refl _) _
    have hrow : (w.alloc (.cells #[] 56)).ownsRow w.heap.size 56 4 (.slice (some ⟨w.heap.size, 0, none⟩) 0 0) 0 [] :=
      ⟨rfl, .inr ⟨w.heap.size, 0, #[], rfl, Nat.le_refl _, heap_alloc_new w _, Nat.le_refl _, Nat.zero_le _, rfl, rfl⟩⟩
    obtain ⟨v', w', hrun, hown, hg, -⟩ := append_own_src (P := Tryz.prog) (w.alloc (.cells #[] 56)) w.heap.size 33 33 33 56 i0 _ 4 56 Tryz.underlying33 hi hz0 hz1 hz2 rfl _ 0 [] hrow (.slice (some ad) n c) n cells
      (Src.ofSlice _ Tryz.underlying33 ad n c cells hcl (fun j u h => below_cells hal _ _ (hc2 j u h)) hone) (by rw [maxLen_eq]; omega) (by omega) hal.size
    have HF := Lib.hid (show ClIs 56 4 n cells w (.returned v') w' from by
      refine ⟨_, rfl, ?_, hal.grown hg hal.size (fun k h => by cases h; exact Nat.le_refl _)⟩
      rw [Nat.zero_add, List.nil_append] at hown
      exact hown)
    have HR := Lib.hid hrun
    clear hrun hown hg hrow hal hi hz0 hz1 hz2 hcs hc2 hone hcl
    go_enter Tryz.func56, Tryz.ntmps56
    go_wp2_with (at_builtin; refine wpList_append_run rfl (.tmp 5) (.tmp 6) 33 33 rfl rfl rfl HR.out ?_)
    go_ret
    exact HF.out
end Go.Proofs.YtelindgnkpfkiaaGreatDoor
