/-
  Locks, the eleventh part: does a lock open? Conditions: none beyond each theorem's own.
-/
import Derived.Test.YtmakghcoehkphaaLock10
namespace Go.Proofs.Ytmakghcoehkphaa
open Go.RowKit Go.BigFrame
set_option linter.unusedVariables false

def openAt (s : ByteArray) (t : PTx) (k : Nat) (x : PIn) : Int :=
  if (chosenOf s x.wit).2 = false then 9 else if waitsOf t k < (chosenOf s x.wit).1.delay then 10
  else if 0 < (chosenOf s x.wit).1.height ∧ (t.lock < (chosenOf s x.wit).1.height ∨ x.seq = 4294967295) then 10 else 0
def openOf (s : ByteArray) (t : PTx) (i : Int) : Int := if isIn t i then (match t.ins[i.toNat]? with | some x => openAt s t i.toNat x | none => 2) else 2
theorem openOf_no {s : ByteArray} {t : PTx} {i : Int} (h : isIn t i = false) : openOf s t i = 2 := by unfold openOf; rw [h]; rfl
theorem openOf_at {s : ByteArray} {t : PTx} {k : Nat} {x : PIn} (h : t.ins[k]? = some x) : openOf s t k = openAt s t k x := by
  have hk := (List.getElem?_eq_some_iff.1 h).1
  have : isIn t k = true := by unfold isIn; simp; omega
  unfold openOf
  rw [this]
  simp [h]
theorem isIn_nat {t : PTx} {i : Int} (h : isIn t i = true) : ∃ k : Nat, i = k ∧ k < t.ins.length := by
  unfold isIn at h
  simp at h
  exact ⟨i.toNat, by omega, by omega⟩
def OpenIs (s : ByteArray) (t : PTx) (i : Int) (w : World) (e : Ending) (w' : World) : Prop := e = .returned (.int .i64 (openOf s t i)) ∧ Below w.heap.size w w'
theorem open_is {s : ByteArray} {t : PTx} {i n : Int} {w w' : World} (h : openOf s t i = n) (hb : Below w.heap.size w w') : OpenIs s t i w (.returned (.int .i64 n)) w' := by unfold OpenIs; rw [h]; exact ⟨rfl, hb⟩

theorem chosen_lt {s : ByteArray} {ws : List ByteArray} : (chosenOf s ws).1.Ok := by
  have key : ∀ l, lockGet s = some l → ∀ x ∈ l, x.Ok := by
    intro l h x hx
    unfold lockGet at h
    split at h
    · obtain rfl : brs s (firstB s) = l := by simpa using h
      obtain ⟨i, _, rfl⟩ := List.mem_map.1 hx
      exact brAt_ok s i
    · cases h
  unfold chosenOf
  split
  · rename_i l n t hl hs
    split
    · rename_i x hx
      exact key l hl x (List.mem_of_getElem? hx)
    · exact ⟨by decide, by decide, by decide⟩
  · exact ⟨by decide, by decide, by decide⟩

set_option maxRecDepth 100000 in
set_option maxHeartbeats 2000000 in
theorem open_any (s : ByteArray) (hs : s.size ≤ 9223372036854775807) (v : Value) (t : PTx) (i : Int) (w : World) (hv : TxAt w v t) :
    Calls Try.prog 20 #[.string s, v, .int .i64 i] w (OpenIs s t i w) := by
  cases hin : isIn t i
  case false =>
    have hv0 := hv
    obtain ⟨a, u, rfl, h1, h2, -, -⟩ := hv0
    obtain ⟨au, cu, rfl, -, -⟩ := h2.shape
    obtain ⟨aa, ca, rfl, -, -⟩ := h1.shape
    have his := fun w' hw' => is_any _ t i w' (hv.mono hw')
    rw [hin] at his
    have HIS := Lib.hid his
    have HO := Lib.hid (openOf_no (s := s) hin)
    clear hv h1 h2 his hin hs
    go_enter Try.func20, Try.ntmps20
    go_wp2_with fail
    refine (HIS.out _ (fun p v hp => cell_over hp _)).mono ?_
    rintro e w1 ⟨rfl, hb1⟩
    go_wp2
    go_ret
    exact open_is HO.out (((Below.refl _ _).alloc (Nat.le_refl _) _).trans (hb1.mono (by simp)))
  case true =>
    obtain ⟨k, rfl, hk⟩ := isIn_nat hin
    obtain ⟨b, o, n, c, au, nu, cu, x, wv, rfl, hn, hnm, hx, hseq, hver, hlock, hwit, hc2, hc3⟩ := tx_in hv hk
    have his := fun w' hw' => is_any _ t k w' (hv.mono hw')
    rw [hin] at his
    have hwt := fun w' hw' => waits_any _ t k w' (hv.mono hw') hk
    have hwl := waitsOf_lt t k
    have ho := openOf_at (s := s) hx
    obtain ⟨hok1, hok2, hok3⟩ := chosen_lt (s := s) (ws := x.wit)
    have hch := fun w' hw' => chosen_any s hs wv x.wit w' (hwit.mono hw')
    unfold ChosenIs brV at hch
    unfold openAt at ho
    rw [hn.symm] at hk
    obtain ⟨wf, hwf⟩ : ∃ wf, waitsOf t k = wf := ⟨_, rfl⟩
    rw [hwf] at hwt hwl ho
    generalize (chosenOf s x.wit).2 = cb at *
    generalize (chosenOf s x.wit).1.tag = g1 at *
    generalize (chosenOf s x.wit).1.delay = g2 at *
    generalize (chosenOf s x.wit).1.height = g3 at *
    have HIS := Lib.hid his
    have HWT := Lib.hid hwt
    have HCH := Lib.hid hch
    have HO := Lib.hid ho
    clear his hwt hch ho hin hv hx hwit hs hwf hn
    generalize x.seq = sq at *
    generalize t.ver = ver at *
    generalize t.lock = lk at *
    go_enter Try.func20, Try.ntmps20
    go_wp2_with fail
    refine (HIS.out _ (fun p v hp => cell_over hp _)).mono ?_
    rintro e w1 ⟨rfl, hb1⟩
    have e1 : w1.heap[w.heap.size]? = _ := (hb1.block w.heap.size (by simp)).trans (heap_alloc_new w _)
    have hw1 : Below w.heap.size w w1 := ((Below.refl _ _).alloc (Nat.le_refl _) _).trans (hb1.mono (by simp))
    have hsz1 : w.heap.size < w1.heap.size := (Array.getElem?_eq_some_iff.1 e1).1
    have q0 : w1.cell? ⟨w.heap.size, 0, none⟩ = _ := cell_at e1
    have q1 : w1.cell? ⟨w.heap.size, 1, none⟩ = _ := cell_at e1
    have q2 : w1.cell? ⟨w.heap.size, 2, none⟩ = _ := cell_at e1
    have q3 : w1.cell? ⟨w.heap.size, 3, none⟩ = _ := cell_at e1
    have p2 := below_cells hw1 _ _ hc2
    have p3 := below_cells hw1 _ _ hc3
    have hx1 : Below w1.heap.size w1 w1 := Below.refl _ _
    have HW1 := Lib.hid hw1
    have HMONO := Lib.hid (below_cells hw1)
    have HE1 := Lib.hid e1
    clear hb1 e1 hw1 hx1 hc2 hc3
    go_wp2_with fail
    refine (HCH.out _ HMONO.out).mono ?_
    rintro e w2 ⟨rfl, hb2⟩
    have hsz2 := hb2.size
    have e2 := (hb2.block w.heap.size hsz1).trans HE1.out
    have hw2 := HW1.out.trans (hb2.mono (Nat.le_of_lt hsz1))
    obtain ⟨wa, hwa⟩ : ∃ wa, wa = w2.alloc (.cells #[.int .u16 g1, .int .u16 g2, .int .u32 g3] 27) := ⟨_, rfl⟩
    obtain ⟨C, hC⟩ : ∃ C : World → Prop, C = fun w' => Below (w2.heap.size + 1) wa w' := ⟨_, rfl⟩
    have hwab : Below w2.heap.size w2 wa := by subst hwa; exact (Below.refl _ _).alloc (Nat.le_refl _) _
    have hk0 : ∀ y : Kin C, Below w2.heap.size w2 y.w := by intro ⟨y, h⟩; subst hC; exact hwab.trans (h.mono (Nat.le_succ _))
    have hkw : ∀ y : Kin C, Below w.heap.size w y.w := fun y => hw2.trans ((hk0 y).mono (Nat.le_trans (Nat.le_of_lt hsz1) hsz2))
    have hcx : ∀ (p : Addr) (u : Value), w2.cell? p = some u → ∀ y : Kin C, y.w.cell? p = some u := fun p u hp y => below_cells (hk0 y) p u hp
    have r0 := hcx _ _ (cell_at (j := 0) e2)
    have r1 := hcx _ _ (cell_at (j := 1) e2)
    have r2 := hcx _ _ (cell_at (j := 2) e2)
    have r3 := hcx _ _ (cell_at (j := 3) e2)
    have r5 := hcx _ _ (below_cells hb2 _ _ p2)
    have hnew : ∀ j u, (#[Value.int .u16 g1, .int .u16 g2, .int .u32 g3] : Array Value)[j]? = some u → ∀ y : Kin C, y.w.cell? ⟨w2.heap.size, j, none⟩ = some u := by
      intro j u hj ⟨y, h⟩
      subst hC
      subst hwa
      exact (h.cell (by simp)).trans (by rw [cell_at (heap_alloc_new w2 _)]; exact hj)
    have s0 := hnew 0 _ rfl
    have s1 := hnew 1 _ rfl
    have s2 := hnew 2 _ rfl
    have hstep : ∀ (y : Kin C) (w' : World), Below y.w.heap.size y.w w' → C w' := by
      intro ⟨y, h⟩ w' h2; subst hC; exact h.trans (h2.mono (by have := h.size; rw [hwa] at this; simpa using this))
    have HST := Lib.hid hstep
    have HC := Lib.hid hC
    have HKW := Lib.hid hkw
    have HWM := Lib.hid (fun y : Kin C => below_cells (hkw y))
    have HWA := Lib.hid hwa
    have HW2 := Lib.hid hw2
    clear hb2 e2 hw2 hwab hk0 hkw hcx hnew hstep hC q0 q1 q2 q3 p2 p3
    cases cb
    · have HO2 := Lib.hid HO.out
      clear r0 r1 r2 r3 r5 s0 s1 s2 hwa
      go_wp2_with fail
      go_ret
      exact open_is (by rw [HO.out]; rfl) (HW2.out.alloc HW2.out.size _)
    · go_wp2_with fail
      rw [← hwa]
      clear hwa
      refine wp_region_kin C (by kernel_rfl) (by kernel_rfl) (by rw [HC.out]; exact (Below.refl _ _).drew) ?_
      intro hne
      repeat (first | (go_big_quiet_step ((rename_i y; go_at_call 46; exact Calls.kin (HWT.out _ (HWM.out y)) (HST.out y)))) | (quiet_step ((rename_i y; go_at_call 46; exact Calls.kin (HWT.out _ (HWM.out y)) (HST.out y)))))
      refine wpQuiet_nil ?_
      intro _ hw'
      obtain ⟨kx, hw''⟩ := hw'
      subst hw''
      have HFIN := Lib.hid (HKW.out kx)
      by_cases h1 : wf < g2
      · go_wp2
        go_ret
        exact open_is (by rw [HO.out, if_neg (by decide), if_pos h1]) HFIN.out
      by_cases h2 : 0 < g3
      case neg =>
        go_wp2
        go_ret
        exact open_is (by rw [HO.out, if_neg (by decide), if_neg h1, if_neg (fun h => h2 h.1)]) HFIN.out
      by_cases h3 : lk < g3
      · go_wp2
        go_ret
        exact open_is (by rw [HO.out, if_neg (by decide), if_neg h1, if_pos ⟨h2, .inl h3⟩]) HFIN.out
      by_cases h4 : sq = 4294967295
      · have hb4 : ((sq : Int) == 4294967295) = true := by rw [beq_iff_eq]; omega
        have H4 := Lib.hid h4
        clear h4
        go_wp2
        go_ret
        exact open_is (by rw [HO.out, if_neg (by decide), if_neg h1, if_pos ⟨h2, .inr H4.out⟩]) HFIN.out
      · have hb4 : ((sq : Int) == 4294967295) = false := by rw [beq_eq_false_iff_ne]; omega
        have H4 := Lib.hid h4
        clear h4
        go_wp2
        go_ret
        exact open_is (by rw [HO.out, if_neg (by decide), if_neg h1, if_neg (fun h => h.2.elim h3 H4.out)]) HFIN.out

end Go.Proofs.Ytmakghcoehkphaa
