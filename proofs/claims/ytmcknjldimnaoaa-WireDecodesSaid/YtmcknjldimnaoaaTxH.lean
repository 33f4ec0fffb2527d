/-
  slices.Clone of Outs and Ins, tx.Grant. Conditions: no more than a thousand elements.
-/
import Derived.Test.YtmcknjldimnaoaaTxN
import Derived.Deep.RegionHeld
import Derived.Deep.DrawnRows
namespace Go.Proofs.Ytmcknjldimnaoaa
open Go.RowKit Go.BigFrame
set_option linter.unusedVariables false
set_option linter.unusedSimpArgs false

theorem slCells_out {w : World} {a : Option Addr} {n c : Nat} {l : List POut} (h : SlAt rpOut w (.slice a n c) l) (hn : 0 < n) : ∃ b o, a = some ⟨b, o, none⟩ ∧ (∀ j u, (outsCells l)[j]? = some u → w.cell? ⟨b, o + j, none⟩ = some u) ∧ ∀ x ∈ l, OkOut x := by
  obtain ⟨hlen, -, -⟩ := h.len
  obtain ⟨b, o, x0, rfl, -, -, -, -⟩ := h.outp hn
  refine ⟨b, o, rfl, fun j u hj => ?_, fun x hx => ?_⟩
  · have hjl : j < l.length * 2 := by have := (List.getElem?_eq_some_iff.1 hj).1; rw [outsCells_len] at this; exact this
    obtain ⟨b2, o2, x, hbo, hx, hok, d0, d1⟩ := h.outp (i := j / 2) (by omega)
    obtain ⟨rfl, rfl⟩ : b = b2 ∧ o = o2 := by simpa using hbo
    rcases Nat.mod_two_eq_zero_or_one j with hm | hm
    · have e : j = j / 2 * 2 + 0 := by omega
      have := flat_at outRow 2 outRow_len l (j / 2) x hx 0 (by omega)
      unfold outsCells at hj
      rw [e, this] at hj
      have hu : u = .int .i64 x.val := by simpa [outRow] using hj.symm
      rw [hu, ← d0]
      congr 2
      omega
    · have e : j = j / 2 * 2 + 1 := by omega
      have := flat_at outRow 2 outRow_len l (j / 2) x hx 1 (by omega)
      unfold outsCells at hj
      rw [e, this] at hj
      have hu : u = .string x.script := by simpa [outRow] using hj.symm
      rw [hu, ← d1]
      congr 2
      omega
  · obtain ⟨i, hi⟩ := List.mem_iff_getElem?.1 hx
    obtain ⟨_, _, y, _, hy, hok, _, _⟩ := h.outp (i := i) (by rw [← hlen]; exact (List.getElem?_eq_some_iff.1 hi).1)
    rw [hi] at hy
    obtain rfl := Option.some.inj hy
    exact hok
theorem outs_oneCell (l : List POut) : ∀ u ∈ outsCells l, u.oneCell' = true := by
  intro u hu
  unfold outsCells at hu
  rw [List.mem_flatMap] at hu
  obtain ⟨x, -, hx⟩ := hu
  simp [outRow] at hx
  rcases hx with rfl | rfl <;> rfl

/-- A copy of Outs in a row of the call's own. -/
def ClOutIs (l : List POut) (w : World) (e : Ending) (w' : World) : Prop := ∃ v, e = .returned v ∧ OutsOwn w.heap.size w' v l ∧ Below w.heap.size w w'
set_option maxRecDepth 100000 in
set_option maxHeartbeats 1000000 in
theorem clOut_any (v : Value) (l : List POut) (w : World) (hv : SlAt rpOut w v l) (hlen : l.length ≤ 1000) : Calls Try.prog 41 #[v] w (ClOutIs l w) := by
  obtain ⟨a, c, rfl, hl1, hl2⟩ := hv.shape
  rw [maxLen_eq] at hl2
  by_cases hnil : a = none
  · subst hnil
    have hl0 : l = [] := by
      match l, hv with
      | [], _ => rfl
      | x :: r, h =>
        obtain ⟨b, o, -, hbo, -⟩ := h.outp (show 0 < (x :: r).length by simp)
        cases hbo
    subst hl0
    have HF := Lib.hid (show ClOutIs [] w (.returned (.slice none 0 0)) w from ⟨_, rfl, outsOwn_nil _ _, Below.refl _ _⟩)
    have heq : ∀ w : World, (binOp .eql 24 (.slice none 0 c) (.slice none 0 0)).run Try.prog w = .ok (.bool true) w := fun w => by kernel_rfl
    clear hv
    go_enter Try.func41, Try.ntmps41
    go_wp2_with fail
    go_ret
    exact HF.out
  · obtain ⟨ad, rfl⟩ := Option.ne_none_iff_exists'.1 hnil
    clear hnil
    have heq : ∀ w : World, (binOp .eql 24 (.slice (some ad) l.length c) (.slice none 0 0)).run Try.prog w = .ok (.bool false) w := fun w => by kernel_rfl
    have hcl : (∀ j u, (outsCells l)[j]? = some u → w.cell? (ad.add j) = some u) ∧ ∀ x ∈ l, OkOut x := by
      rcases Nat.eq_zero_or_pos l.length with h0 | h0
      · have : l = [] := List.eq_nil_of_length_eq_zero h0
        subst this
        exact ⟨fun j u h => by simp [outsCells] at h, fun x h => by simp at h⟩
      · obtain ⟨b, o, hbo, h1, h2⟩ := slCells_out hv h0
        obtain rfl := Option.some.inj hbo
        exact ⟨fun j u h => by rw [Addr.add_lit]; exact h1 j u h, h2⟩
    obtain ⟨i0, hi, hz0, hz1, hz2⟩ := info_parts info_out
    have hal : Below w.heap.size w (w.alloc (.cells #[] 59)) := (Below.refl _ _).alloc (Nat.le_refl _) _
    have hrow : (w.alloc (.cells #[] 59)).ownsRow w.heap.size 59 2 (.slice (some ⟨w.heap.size, 0, none⟩) 0 0) 0 [] :=
      ⟨rfl, .inr ⟨w.heap.size, 0, #[], rfl, Nat.le_refl _, heap_alloc_new w _, Nat.le_refl _, Nat.zero_le _, rfl, rfl⟩⟩
    obtain ⟨v', w', hrun, hown, hg, -⟩ := append_own_src (P := Try.prog) (w.alloc (.cells #[] 59)) w.heap.size 24 24 24 59 i0 _ 2 24 Try.underlying24 hi hz0 hz1 hz2 rfl _ 0 [] hrow (.slice (some ad) l.length c) l.length (outsCells l)
      (Src.ofSlice _ Try.underlying24 ad l.length c (outsCells l) (outsCells_len l) (fun j u h => below_cells hal _ _ (hcl.1 j u h)) (outs_oneCell l)) (by rw [maxLen_eq]; omega) (by omega) hal.size
    have HF := Lib.hid (show ClOutIs l w (.returned v') w' from by
      refine ⟨_, rfl, ⟨?_, hcl.2⟩, hal.grown hg hal.size (fun k h => by cases h; exact Nat.le_refl _)⟩
      rw [Nat.zero_add, List.nil_append] at hown
      exact hown)
    have HR := Lib.hid hrun
    clear hrun hown hg hrow hal hi hz0 hz1 hz2 hcl hv
    go_enter Try.func41, Try.ntmps41
    go_wp2_with (at_builtin; refine wpList_append_run rfl (.tmp 5) (.tmp 6) 24 24 rfl rfl rfl HR.out ?_)
    go_ret
    exact HF.out

theorem insOwn_one {base : Nat} {w : World} {b : Nat} {x : PIn} (hx : x.wit = []) (hb : base ≤ b) (h : w.heap[b]? = some (.cells #[.string x.id, .int .u32 x.idx, .int .u32 x.seq, .slice none 0 0] 47 (0, 0))) (ho : OkIn x) :
    InsOwn base w (.slice (some ⟨b, 0, none⟩) 1 1) [(x, .slice none 0 0)] := by
  have one : ∀ (i : Nat) (p : PIn × Value), [(x, Value.slice none 0 0)][i]? = some p → p = (x, .slice none 0 0) := fun i p hp => by
    match i, hp with
    | 0, hp => exact (Option.some.inj hp).symm
  refine ⟨⟨rfl, .inr ⟨b, 1, _, rfl, hb, h, Nat.le_refl _, by rw [maxLen_eq]; omega, rfl, rfl⟩⟩, fun i p hp => ?_, fun i p hp => ?_, fun i p c hp hc => ?_, fun i j p q c hp hq hij hc => ?_⟩
  · rw [one i p hp]
    dsimp only
    rw [hx]
    exact World.ownsRow_nil _ _ _ _
  · rw [one i p hp]; exact ho
  · rw [one i p hp] at hc; cases hc
  · rw [one i p hp] at hc; cases hc
def grantTx (h : Int) (outs : List POut) : PTx := ⟨2, [⟨zeros32, 4294967295, 4294967295, []⟩], outs, (h % 4294967296).toNat⟩
def GrantIs (h : Int) (outs : List POut) (w : World) (e : Ending) (w' : World) : Prop := ∃ v, e = .returned v ∧ TxOwn w.heap.size w' v (grantTx h outs) ∧ Below w.heap.size w w'
set_option maxRecDepth 100000 in
set_option maxHeartbeats 1000000 in
theorem grant_any (h : Int) (v : Value) (l : List POut) (w : World) (hv : SlAt rpOut w v l) (hlen : l.length ≤ 1000) : Calls Try.prog 38 #[.int .i64 h, v] w (GrantIs h l w) := by
  have HV := Lib.hid hv
  obtain ⟨a, c, rfl, hl1, hl2⟩ := hv.shape
  clear hv
  have HL := Lib.hid hlen
  clear hlen hl1 hl2
  go_enter Try.func38, Try.ntmps38
  go_upto_region 1 with fail
  have hz := heap_alloc_new w (.cells #[.int .u32 0, .slice none 0 0, .slice none 0 0, .int .u32 0] 26)
  have hal : Below w.heap.size w (w.alloc (.cells #[.int .u32 0, .slice none 0 0, .slice none 0 0, .int .u32 0] 26)) := (Below.refl _ _).alloc (Nat.le_refl _) _
  have hs0 : w.heap.size < (w.alloc (.cells #[.int .u32 0, .slice none 0 0, .slice none 0 0, .int .u32 0] 26)).heap.size := by simp
  generalize w.alloc (.cells #[.int .u32 0, .slice none 0 0, .slice none 0 0, .int .u32 0] 26) = w0 at *
  go_wp2_with fail
  refine (base_any w0).mono ?_
  rintro e w1 ⟨rfl, hb1⟩
  have hb01 := hal.trans (hb1.mono hal.size)
  have hz1 : w1.heap[w.heap.size]? = _ := (hb1.block _ hs0).trans hz
  have hs1 : w.heap.size < w1.heap.size := Nat.lt_of_lt_of_le hs0 hb1.size
  have hx1 := heap_alloc_new w1 (.cells #[.string zeros32, .int .u32 4294967295, .int .u32 4294967295, .slice none 0 0] 47)
  have hax : Below w1.heap.size w1 (w1.alloc (.cells #[.string zeros32, .int .u32 4294967295, .int .u32 4294967295, .slice none 0 0] 47)) := (Below.refl _ _).alloc (Nat.le_refl _) _
  have hsx : (w1.alloc (.cells #[.string zeros32, .int .u32 4294967295, .int .u32 4294967295, .slice none 0 0] 47)).heap.size = w1.heap.size + 1 := by simp
  have HB01 := Lib.hid hb01
  clear hal hs0 hz hb1 hb01
  go_wp2_with fail
  generalize w1.alloc (.cells #[.string zeros32, .int .u32 4294967295, .int .u32 4294967295, .slice none 0 0] 47) = wx at *
  refine (clOut_any _ l wx (HV.out.below (HB01.out.trans (hax.mono HB01.out.size))) HL.out).mono ?_
  rintro e w2 ⟨vo, rfl, hout, hb2⟩
  have hxlt : w1.heap.size < wx.heap.size := by omega
  have hx2 : w2.heap[w1.heap.size]? = _ := (hb2.block _ hxlt).trans hx1
  have hz2 : w2.heap[w.heap.size]? = _ := (hb2.block _ (Nat.lt_trans hs1 hxlt)).trans ((hax.block _ hs1).trans hz1)
  have hb03 : Below w.heap.size w w2 := (HB01.out.trans (hax.mono HB01.out.size)).trans (hb2.mono (Nat.le_trans HB01.out.size hax.size))
  have hobl := hout.row.lt
  obtain ⟨ao, co, rfl, -, -⟩ := ownsRow_shape hout.row
  have z0 : w2.cell? ⟨w.heap.size, 0, none⟩ = some (.int .u32 0) := cell_at hz2
  have z1 : w2.cell? ⟨w.heap.size, 1, none⟩ = some (.slice none 0 0) := cell_at hz2
  have z2 : w2.cell? ⟨w.heap.size, 2, none⟩ = some (.slice none 0 0) := cell_at hz2
  have z3 : w2.cell? ⟨w.heap.size, 3, none⟩ = some (.int .u32 0) := cell_at hz2
  have f0 : w2.frozen? ⟨w.heap.size, 0, none⟩ = false := free_at hz2
  have f1 : w2.frozen? ⟨w.heap.size, 1, none⟩ = false := free_at hz2
  have f2 : w2.frozen? ⟨w.heap.size, 2, none⟩ = false := free_at hz2
  have f3 : w2.frozen? ⟨w.heap.size, 3, none⟩ = false := free_at hz2
  have HX2 := Lib.hid hx2
  have HZ2 := Lib.hid hz2
  have HB03 := Lib.hid hb03
  have HOUT := Lib.hid hout
  have HOBL := Lib.hid hobl
  have HS := Lib.hid (And.intro hs1 hxlt)
  obtain ⟨X, hX⟩ : ∃ X, X = w1.heap.size := ⟨_, rfl⟩
  have HXX := Lib.hid hX
  rw [← hX]
  have hwr : IntKind.u32.wrap h = h % 4294967296 := IntKind.wrap_u32 h
  clear hx2 hz2 hb03 hout hobl hs1 hxlt hb2 hx1 hz1 hax hsx hX
  go_wp2_with fail
  have q1 := heap_setCell_at (j := 0) (u := .int .u32 2) HZ2.out
  have q2 := heap_setCell_at (j := 1) (u := .slice (some ⟨X, 0, none⟩) 1 1) q1
  have q3 := heap_setCell_at (j := 2) (u := .slice ao l.length co) q2
  have q4 := heap_setCell_at (j := 3) (u := .int .u32 (h % 4294967296)) q3
  have hkeep : ∀ b, b ≠ w.heap.size → ((((w2.setCell ⟨w.heap.size, 0, none⟩ (.int .u32 2)).setCell ⟨w.heap.size, 1, none⟩ (.slice (some ⟨X, 0, none⟩) 1 1)).setCell ⟨w.heap.size, 2, none⟩ (.slice ao l.length co)).setCell ⟨w.heap.size, 3, none⟩ (.int .u32 (h % 4294967296))).heap[b]? = w2.heap[b]? := fun b hb => by
    rw [Below.heap_setCell _ _ _ _ hb, Below.heap_setCell _ _ _ _ hb, Below.heap_setCell _ _ _ _ hb, Below.heap_setCell _ _ _ _ hb]
  have hbel : Below w.heap.size w ((((w2.setCell ⟨w.heap.size, 0, none⟩ (.int .u32 2)).setCell ⟨w.heap.size, 1, none⟩ (.slice (some ⟨X, 0, none⟩) 1 1)).setCell ⟨w.heap.size, 2, none⟩ (.slice ao l.length co)).setCell ⟨w.heap.size, 3, none⟩ (.int .u32 (h % 4294967296))) :=
    (((HB03.out.setCell (p := ⟨w.heap.size, 0, none⟩) (Nat.le_refl _) _).setCell (p := ⟨w.heap.size, 1, none⟩) (Nat.le_refl _) _).setCell (p := ⟨w.heap.size, 2, none⟩) (Nat.le_refl _) _).setCell (p := ⟨w.heap.size, 3, none⟩) (Nat.le_refl _) _
  generalize (((w2.setCell ⟨w.heap.size, 0, none⟩ (.int .u32 2)).setCell ⟨w.heap.size, 1, none⟩ (.slice (some ⟨X, 0, none⟩) 1 1)).setCell ⟨w.heap.size, 2, none⟩ (.slice ao l.length co)).setCell ⟨w.heap.size, 3, none⟩ (.int .u32 (h % 4294967296)) = w4 at *
  have y0 : w4.cell? ⟨w.heap.size, 0, none⟩ = some (.int .u32 2) := cell_at q4
  have y1 : w4.cell? ⟨w.heap.size, 1, none⟩ = some (.slice (some ⟨X, 0, none⟩) 1 1) := cell_at q4
  have y2 : w4.cell? ⟨w.heap.size, 2, none⟩ = some (.slice ao l.length co) := cell_at q4
  have y3 : w4.cell? ⟨w.heap.size, 3, none⟩ = some (.int .u32 (h % 4294967296)) := cell_at q4
  have hXl : w.heap.size < X := by rw [HXX.out]; exact HS.out.1
  have hins : InsOwn w.heap.size w4 (.slice (some ⟨X, 0, none⟩) 1 1) [(⟨zeros32, 4294967295, 4294967295, []⟩, .slice none 0 0)] := by
    refine insOwn_one rfl (by omega) ?_ ⟨by rw [maxLen_eq]; show zeros32.size ≤ _; rw [zeros32_size]; omega, by show 4294967295 < 4294967296; omega, by show 4294967295 < 4294967296; omega, fun s hs => by simp at hs⟩
    rw [hkeep X (by omega), HXX.out]
    exact HX2.out
  have houts : OutsOwn w.heap.size w4 (.slice ao l.length co) l := by
    refine (HOUT.out.kept fun b hb => ?_).base (by have := HS.out; omega)
    exact hkeep b (by have := (HOBL.out b hb).1; have := HS.out; omega)
  have hfin : GrantIs h l w (.returned (.agg #[.int .u32 2, .slice (some ⟨X, 0, none⟩) 1 1, .slice ao l.length co, .int .u32 (h % 4294967296)])) w4 := by
    refine ⟨_, rfl, ⟨⟨_, _, _, ?_, rfl, hins, houts, fun b hb hh => ?_⟩, by show 2 < 4294967296; omega, by show (h % 4294967296).toNat < _; omega⟩, hbel⟩
    · show _ = Value.agg #[.int .u32 2, _, _, .int .u32 ((h % 4294967296).toNat : Int)]
      rw [Int.toNat_of_nonneg (by omega)]
    · have h1 := (HOBL.out b hb).1
      have h2 := HS.out
      rcases hh with hh | ⟨i, p, hp, hh⟩
      · have := Option.some.inj hh
        simp only at this
        have := HXX.out
        omega
      · match i, hp with
        | 0, hp => obtain rfl := Option.some.inj hp; cases hh
  have HF := Lib.hid hfin
  clear hfin hins houts hbel hkeep q1 q2 q3 q4
  exact bodyPost_ret (v := .agg #[.int .u32 2, .slice (some ⟨X, 0, none⟩) 1 1, .slice ao l.length co, .int .u32 (h % 4294967296)]) (by simp [results, Try.results38, go_sem, y0, y1, y2, y3]) rfl HF.out
end Go.Proofs.Ytmcknjldimnaoaa
