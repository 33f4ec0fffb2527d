/-
  Locks: the law's own signs of life. Conditions: none.
-/
import Derived.Test.YtiicigpndagecaaLock15
namespace Go.Proofs.Ytiicigpndagecaa
open Go.RowKit Go.BigFrame
set_option linter.unusedVariables false

def oneBr : List PBr := [⟨1, 0, 0⟩]
def oneTx : PTx := ⟨2, [⟨⟨#[]⟩, 0, 5, [signW 0 1]⟩], [], 0⟩
theorem w_put : lockPut oneBr = ([1, 1, 0, 0, 0, 0, 0, 0, 0], 0) := by decide
theorem w_open : openOf ⟨#[1, 1, 0, 0, 0, 0, 0, 0, 0]⟩ oneTx 0 = 0 := by decide
theorem w_open2 : openOf ⟨#[]⟩ oneTx 0 = 9 := by decide
theorem w_ripe : ripeOf oneTx 0 3 8 = true := by decide
theorem w_ripe2 : ripeOf oneTx 0 3 7 = false := by decide
theorem w_nil : lockPut [] = ([], 6) := by decide

theorem sl_br1 (w : World) : SlAt rpBr (w.alloc (.cells #[.int .u16 1, .int .u16 0, .int .u32 0] 51)) (.slice (some ⟨w.heap.size, 0, none⟩) 1 1) oneBr := by
  refine ⟨_, 1, rfl, Nat.le_refl _, by decide, fun i x hi => ?_⟩
  have h0 : i = 0 := by have := (List.getElem?_eq_some_iff.1 hi).1; simpa [oneBr] using this
  subst h0
  obtain rfl : (⟨1, 0, 0⟩ : PBr) = x := by simpa [oneBr] using hi
  refine ⟨_, 0, [.int .u16 1, .int .u16 0, .int .u32 0], rfl, rfl, fun j u hj => ?_, rfl, ⟨by decide, by decide, by decide⟩⟩
  rw [cell_at (heap_alloc_new w _)]
  simpa using hj

theorem tx_one {w w' : World} {v : Value} (hv : SlAt rpStr w v [signW 0 1]) (ob : Obj) (h : Below (w.heap.size + 2) ((w.alloc (.cells #[.string ⟨#[]⟩, .int .u32 0, .int .u32 5, v] 49)).alloc ob) w') :
    TxAt w' (.agg #[.int .u32 2, .slice (some ⟨w.heap.size, 0, none⟩) 1 1, .slice none 0 0, .int .u32 0]) oneTx := by
  have hb : Below w.heap.size w w' := (((Below.refl _ _).alloc (Nat.le_refl _) _).alloc (by simp) _).trans (h.mono (by omega))
  refine ⟨_, _, rfl, ?_, sl_nil, by decide, by decide⟩
  refine ⟨_, 1, rfl, Nat.le_refl _, by decide, fun i x hi => ?_⟩
  have h0 : i = 0 := by have := (List.getElem?_eq_some_iff.1 hi).1; simpa [oneTx] using this
  subst h0
  obtain rfl : (⟨⟨#[]⟩, 0, 5, [signW 0 1]⟩ : PIn) = x := by simpa [oneTx] using hi
  refine ⟨_, 0, [.string ⟨#[]⟩, .int .u32 0, .int .u32 5, v], rfl, rfl, fun j u hj => ?_, v, rfl, hv.mono (below_cells hb), by decide, by decide, by decide⟩
  rw [h.cell (by simp), cell_over _ _]
  rw [cell_at (heap_alloc_new w _)]
  simpa using hj

theorem wput_any (v : Value) (w : World) (hv : SlAt rpBr w v oneBr) : Calls Try.prog 18 #[v] w fun e w' => e = .returned (.tuple #[.string ⟨#[1, 1, 0, 0, 0, 0, 0, 0, 0]⟩, .int .i64 0]) ∧ Below w.heap.size w w' :=
  (lput_any v oneBr w hv).mono fun e w' ⟨h1, h2⟩ => ⟨by rw [h1, w_put], h2⟩
theorem wputnil_any (w : World) : Calls Try.prog 18 #[.slice none 0 0] w fun e w' => e = .returned (.tuple #[.string ⟨#[]⟩, .int .i64 6]) ∧ Below w.heap.size w w' :=
  (lput_any _ [] w sl_nil).mono fun e w' ⟨h1, h2⟩ => ⟨by rw [h1, w_nil], h2⟩

set_option maxRecDepth 100000 in
set_option maxHeartbeats 2000000 in
theorem wakes_any (w : World) : Calls Try.prog 13 #[] w fun e w' => e = .returned (.bool true) ∧ Below w.heap.size w w' := by
  have HP := Lib.hid (fun w => wput_any _ _ (sl_br1 w))
  go_enter Try.func13, Try.ntmps13
  go_wp2_with fail
  refine (HP.out _).mono ?_
  rintro e w1 ⟨rfl, hb1⟩
  have HB1 := Lib.hid (((Below.refl w.heap.size w).alloc (Nat.le_refl _) _).trans (hb1.mono (by simp)))
  clear hb1
  go_wp2_with fail
  refine (sign_yes 0 1 (by omega) (by omega) _).mono ?_
  rintro e w2 ⟨v, rfl, hv, hb2⟩
  have HB2 := Lib.hid (HB1.out.trans (hb2.mono HB1.out.size))
  have HV := Lib.hid hv
  obtain ⟨va, vc, rfl, -, -⟩ := hv.shape
  clear hv hb2
  obtain ⟨ob, hob⟩ : ∃ ob, ob = Obj.cells #[.int .u32 2, .slice (some ⟨w2.heap.size, 0, none⟩) 1 1, .slice none 0 0, .int .u32 0] 27 := ⟨_, rfl⟩
  obtain ⟨W, hW⟩ : ∃ W, W = (w2.alloc (.cells #[.string ⟨#[]⟩, .int .u32 0, .int .u32 5, .slice va 1 vc] 49)).alloc ob := ⟨_, rfl⟩
  have hsz : W.heap.size = w2.heap.size + 2 := by rw [hW]; simp
  have hcell : ∀ w', Below (w2.heap.size + 2) W w' → ∀ j u, (#[.int .u32 2, .slice (some ⟨w2.heap.size, 0, none⟩) 1 1, .slice none 0 0, .int .u32 0] : Array Value)[j]? = some u → w'.cell? ⟨w2.heap.size + 1, j, none⟩ = some u := by
    intro w' h j u hj
    rw [h.cell (by simp), hW, hob]
    have := heap_alloc_new (w2.alloc (.cells #[.string ⟨#[]⟩, .int .u32 0, .int .u32 5, .slice va 1 vc] 49)) (Obj.cells #[.int .u32 2, .slice (some ⟨w2.heap.size, 0, none⟩) 1 1, .slice none 0 0, .int .u32 0] 27)
    rw [show (w2.alloc (.cells #[.string ⟨#[]⟩, .int .u32 0, .int .u32 5, .slice va 1 vc] 49)).heap.size = w2.heap.size + 1 by simp] at this
    rw [cell_at this]
    exact hj
  have htx : ∀ w', Below (w2.heap.size + 2) W w' → TxAt w' (.agg #[.int .u32 2, .slice (some ⟨w2.heap.size, 0, none⟩) 1 1, .slice none 0 0, .int .u32 0]) oneTx := fun w' h => tx_one (w := w2) HV.out ob (hW ▸ h : Below (w2.heap.size + 2) _ w')
  have hfin : ∀ w', Below (w2.heap.size + 2) W w' → Below w.heap.size w w' := fun w' h => ((HB2.out.alloc HB2.out.size _).alloc (by have := HB2.out.size; simp; omega) ob).trans ((hW ▸ h : Below (w2.heap.size + 2) _ w').mono (by have := HB2.out.size; omega))
  have hstep : ∀ w' w'', Below (w2.heap.size + 2) W w' → Below w'.heap.size w' w'' → Below (w2.heap.size + 2) W w'' := fun w' w'' h h2 => h.trans (h2.mono (by have := h.size; omega))
  have HC := Lib.hid hcell
  have HT := Lib.hid htx
  have HF := Lib.hid hfin
  have HST := Lib.hid hstep
  have HSZ := Lib.hid hsz
  have HW := Lib.hid (hob ▸ hW)
  clear hob hW hsz hcell htx hfin hstep
  go_wp2_with fail
  rw [← HW.out]
  refine (wputnil_any _).mono ?_
  rintro e w3 ⟨rfl, hb3⟩
  have I3 := Lib.hid (show Below (w2.heap.size + 2) W w3 by rw [← HSZ.out]; exact hb3)
  clear hb3
  have c0 := HC.out _ I3.out 0 _ rfl
  have c1 := HC.out _ I3.out 1 _ rfl
  have c2 := HC.out _ I3.out 2 _ rfl
  have c3 := HC.out _ I3.out 3 _ rfl
  go_wp2_with fail
  refine (open_any ⟨#[1, 1, 0, 0, 0, 0, 0, 0, 0]⟩ (by decide) _ oneTx 0 w3 (HT.out _ I3.out)).mono ?_
  rintro e w4 ⟨rfl, hb4⟩
  have I4 := Lib.hid (HST.out _ _ I3.out hb4)
  rw [w_open]
  clear c0 c1 c2 c3 hb4
  have c0 := HC.out _ I4.out 0 _ rfl
  have c1 := HC.out _ I4.out 1 _ rfl
  have c2 := HC.out _ I4.out 2 _ rfl
  have c3 := HC.out _ I4.out 3 _ rfl
  go_wp2_with fail
  refine (open_any ⟨#[]⟩ (by decide) _ oneTx 0 w4 (HT.out _ I4.out)).mono ?_
  rintro e w5 ⟨rfl, hb5⟩
  have I5 := Lib.hid (HST.out _ _ I4.out hb5)
  rw [w_open2]
  clear c0 c1 c2 c3 hb5
  have c0 := HC.out _ I5.out 0 _ rfl
  have c1 := HC.out _ I5.out 1 _ rfl
  have c2 := HC.out _ I5.out 2 _ rfl
  have c3 := HC.out _ I5.out 3 _ rfl
  go_wp2_with fail
  refine (ripe_any _ oneTx 0 3 8 w5 (HT.out _ I5.out) (by omega)).mono ?_
  rintro e w6 ⟨rfl, hb6⟩
  have I6 := Lib.hid (HST.out _ _ I5.out hb6)
  rw [w_ripe]
  clear c0 c1 c2 c3 hb6
  have c0 := HC.out _ I6.out 0 _ rfl
  have c1 := HC.out _ I6.out 1 _ rfl
  have c2 := HC.out _ I6.out 2 _ rfl
  have c3 := HC.out _ I6.out 3 _ rfl
  go_wp2_with fail
  refine (ripe_any _ oneTx 0 3 7 w6 (HT.out _ I6.out) (by omega)).mono ?_
  rintro e w7 ⟨rfl, hb7⟩
  have I7 := Lib.hid (HST.out _ _ I6.out hb7)
  rw [w_ripe2]
  clear c0 c1 c2 c3 hb7
  go_wp2
  go_ret
  exact ⟨rfl, HF.out _ I7.out⟩

end Go.Proofs.Ytiicigpndagecaa
