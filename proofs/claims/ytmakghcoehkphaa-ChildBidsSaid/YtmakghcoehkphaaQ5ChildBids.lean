/-
  ChildBids, part 5: the texts Cj, Ck, ChildBidsLaw, one after another. Conditions: none beyond those named at each.
-/
import Derived.Test.YtmakghcoehkphaaQ4ChildBids
import Derived.Test.YtmakghcoehkphaaRows
import Derived.ProofKit
import Derived.OpenShut
import Derived.ShutString
import Derived.ChangeOld
import Derived.Below
section
/-
  The law's signs of life. Conditions: none.
-/
namespace Go.Proofs.Ytmakghcoehkphaa
open Go.RowKit Go.BigFrame
set_option linter.unusedVariables false
set_option linter.unusedSimpArgs false

def z0 : PRaw := ⟨⟨⟨#[]⟩, 0, 0, 0, ⟨0, 0, 0⟩, 0⟩, ⟨#[]⟩, 0, 0, 0, 0, false⟩
theorem of_zero (w : World) : Calls Try.prog 7 #[.agg #[.string ⟨#[]⟩, .int .u32 0, .int .i64 0, .int .i64 0, .int .u16 0, .int .u16 0, .int .u32 0, .int .i64 0, .string ⟨#[]⟩, .int .u32 0, .int .i64 0, .int .u16 0, .int .i64 0, .bool false]] w fun e w' =>
    e = .returned (.tuple #[.agg #[.string (idB 1), .int .u32 0, .int .i64 0, .int .i64 0, .int .u16 0, .int .u16 0, .int .u32 0, .int .i64 0], .agg #[.string (idB 2), .int .u32 0]]) ∧ Below w.heap.size w w' := of_any z0 w
theorem idB12 : idB 1 ≠ idB 2 := by decide +kernel
theorem idB1_base : isBase (idB 1) 0 = false := by decide +kernel
theorem idB2_base : isBase (idB 2) 0 = false := by decide +kernel
def wkA : PCl := ⟨idB 1, 0, 330, 0, ⟨0, 0, 0⟩, 0⟩
def wkTx : PTx := childTx wkA (idB 2) 0 7 830
theorem wkA_ok : wkA.Ok := ⟨by show (idB 1).size ≤ _; rw [idB_size]; decide, by show 0 < _; decide, by show (_ : Int) ≤ 330 ∧ (330 : Int) ≤ _; decide, by show (_ : Int) ≤ 0 ∧ (0 : Int) ≤ _; decide, ⟨by show 0 < _; decide, by show 0 < _; decide, by show 0 < _; decide⟩, by show (_ : Int) ≤ 0 ∧ (0 : Int) ≤ _; decide⟩
theorem wkTx_check : checkOf wkTx = 0 := child_check (idB_size _) (idB_size _) (show isBase (idB 1) 0 = false from idB1_base) idB2_base (fun e => idB12 (congrArg Prod.fst e)) (by decide)
theorem wk_of : childOf wkA (idB 2) 0 1000 7 500 = (wkTx, 0) := by
  unfold childOf
  rw [if_neg (by decide), if_neg (by decide), if_neg (by decide), if_neg (by decide)]
  have h : checkOf (childTx wkA (idB 2) 0 7 (wkA.val + 1000 - 500)) = 0 := wkTx_check
  rw [if_neg (by rw [h]; decide)]
  rfl
theorem wk_build (w : World) : Calls Try.prog 8 #[.agg #[.string (idB 1), .int .u32 0, .int .i64 330, .int .i64 0, .int .u16 0, .int .u16 0, .int .u32 0, .int .i64 0], .agg #[.string (idB 2), .int .u32 0, .int .i64 1000, .string ⟨#[]⟩, .int .i64 0], .int .u16 7, .int .i64 500] w (BuildIs (wkTx, 0) w) := by
  have h := cbuild_any wkA (idB 2) 0 1000 ⟨#[]⟩ 0 7 500 wkA_ok (by rw [idB_size]; decide) (by decide) (by decide) w
  rw [wk_of] at h
  exact h
theorem wk_bad (w : World) : Calls Try.prog 8 #[.agg #[.string (idB 1), .int .u32 0, .int .i64 330, .int .i64 0, .int .u16 0, .int .u16 0, .int .u32 0, .int .i64 0], .agg #[.string (idB 2), .int .u32 0, .int .i64 0, .string ⟨#[]⟩, .int .i64 0], .int .u16 0, .int .i64 0] w (BuildIs (noTx, 2) w) := by
  have h := cbuild_any wkA (idB 2) 0 0 ⟨#[]⟩ 0 0 0 wkA_ok (by rw [idB_size]; decide) (by decide) (by decide) w
  rw [child_bad (.inl rfl)] at h
  exact h
theorem wk_bid (w : World) : Calls Try.prog 12 #[.int .i64 5000, .int .i64 0, .int .i64 100] w (PBs (1065, 0) w) := by
  have h := cbid_any 5000 0 100 w
  rw [show bidE 5000 0 100 = (1065, 0) by decide] at h
  exact h
set_option maxRecDepth 100000 in
set_option maxHeartbeats 4000000 in
theorem wakes24_any (w : World) : Calls Try.prog 11 #[] w (BIs true w) := by
  have HW1 := Lib.hid of_zero
  have HW2 := Lib.hid wk_build
  have HW3 := Lib.hid wk_bad
  generalize idB 1 = i1 at *
  generalize idB 2 = i2 at *
  go_enter Try.func11, Try.ntmps11
  go_wp2_with fail
  refine (wk_bid w).mono ?_
  rintro e w1 ⟨rfl, hb⟩
  have HB1 := Lib.hid hb
  clear hb
  go_wp2_with fail
  refine (HW1.out w1).mono ?_
  rintro e w2 ⟨rfl, hb⟩
  have HB2 := Lib.hid (HB1.out.trans (hb.mono HB1.out.size))
  clear hb HB1
  go_upto_region 3 with fail
  obtain ⟨X, hX⟩ : ∃ q, q = w2.heap.size := ⟨_, rfl⟩
  have hnews := new2 w2 X hX (.cells #[.string i1, .int .u32 0, .int .i64 0, .int .i64 0, .int .u16 0, .int .u16 0, .int .u32 0, .int .i64 0] 29) (.cells #[.string i2, .int .u32 0] 24)
  rw [← hX]
  generalize ((w2.alloc (.cells #[.string i1, .int .u32 0, .int .i64 0, .int .i64 0, .int .u16 0, .int .u16 0, .int .u32 0, .int .i64 0] 29)).alloc (.cells #[.string i2, .int .u32 0] 24)) = w3 at *
  obtain ⟨hz0, hz1, hal⟩ := hnews
  have hX1 : w.heap.size ≤ X := by have := HB2.out.size; omega
  have HB3 := Lib.hid (HB2.out.trans (hal.mono HB2.out.size))
  have HZ0 := Lib.hid hz0
  have HZ1 := Lib.hid hz1
  have c2 : w3.cell? ⟨X, 2, none⟩ = some (.int .i64 0) := cell_at hz0
  have f2 : w3.frozen? ⟨X, 2, none⟩ = false := free_at hz0
  clear hz0 hz1 hal hX HB2 HW1
  go_upto_region 4 with fail
  have g0 := heap_setCell_at (j := 2) (u := .int .i64 330) HZ0.out
  have g1 : (w3.setCell ⟨X, 2, none⟩ (.int .i64 330)).heap[X + 1]? = _ := (Below.heap_setCell _ _ _ _ (by show X + 1 ≠ X; omega)).trans HZ1.out
  have HB4 := Lib.hid (HB3.out.setCell (p := ⟨X, 2, none⟩) hX1 (.int .i64 330))
  generalize w3.setCell ⟨X, 2, none⟩ (.int .i64 330) = w4 at *
  have c0 : w4.cell? ⟨X, 0, none⟩ = some (.string i1) := cell_at g0
  have c1 : w4.cell? ⟨X, 1, none⟩ = some (.int .u32 0) := cell_at g0
  have e2 : w4.cell? ⟨X, 2, none⟩ = some (.int .i64 330) := cell_at g0
  have c3 : w4.cell? ⟨X, 3, none⟩ = some (.int .i64 0) := cell_at g0
  have c4 : w4.cell? ⟨X, 4, none⟩ = some (.int .u16 0) := cell_at g0
  have c5 : w4.cell? ⟨X, 5, none⟩ = some (.int .u16 0) := cell_at g0
  have c6 : w4.cell? ⟨X, 6, none⟩ = some (.int .u32 0) := cell_at g0
  have c7 : w4.cell? ⟨X, 7, none⟩ = some (.int .i64 0) := cell_at g0
  have d0 : w4.cell? ⟨X + 1, 0, none⟩ = some (.string i2) := cell_at g1
  have d1 : w4.cell? ⟨X + 1, 1, none⟩ = some (.int .u32 0) := cell_at g1
  clear g0 g1 f2 c2 HB3 HZ0 HZ1
  go_wp2_with fail
  refine (HW2.out w4).mono ?_
  rintro e w5 ⟨v, rfl, htx, hb⟩
  have HB5 := Lib.hid (HB4.out.trans (hb.mono HB4.out.size))
  replace c0 := below_cells hb _ _ c0
  replace c1 := below_cells hb _ _ c1
  replace e2 := below_cells hb _ _ e2
  replace c3 := below_cells hb _ _ c3
  replace c4 := below_cells hb _ _ c4
  replace c5 := below_cells hb _ _ c5
  replace c6 := below_cells hb _ _ c6
  replace c7 := below_cells hb _ _ c7
  replace d0 := below_cells hb _ _ d0
  replace d1 := below_cells hb _ _ d1
  clear hb HB4 HW2
  obtain ⟨va, vo, rfl, ha, hob, -, -⟩ := htx
  obtain ⟨a1, n1, rfl, -, -⟩ := ha.shape
  obtain ⟨a2, n2, rfl, -, -⟩ := hob.shape
  obtain ⟨b, o, x, rfl, hx, -, q0, -⟩ := hob.outp (i := 0) (show 0 < 1 by decide)
  obtain rfl : (⟨830, scrT 7⟩ : POut) = x := Option.some.inj hx
  dsimp only at q0
  rw [show o + 0 * 2 = o by omega] at q0
  rw [show (wkTx, (0 : Int)).1.ver = 2 from rfl, show (wkTx, (0 : Int)).1.lock = 0 from rfl, show (wkTx, (0 : Int)).1.ins.length = 2 from rfl, show (wkTx, (0 : Int)).1.outs.length = 1 from rfl]
  clear ha hob hx
  go_upto_region 5 with fail
  have hz := heap_alloc_new w5 (.cells #[.int .u32 (2 : Nat), .slice a1 2 n1, .slice (some ⟨b, o, none⟩) 1 n2, .int .u32 (0 : Nat)] 43)
  have hal : Below w5.heap.size w5 (w5.alloc (.cells #[.int .u32 (2 : Nat), .slice a1 2 n1, .slice (some ⟨b, o, none⟩) 1 n2, .int .u32 (0 : Nat)] 43)) := (Below.refl _ _).alloc (Nat.le_refl _) _
  obtain ⟨T, hT⟩ : ∃ q, q = w5.heap.size := ⟨_, rfl⟩
  rw [← hT] at hz ⊢
  generalize w5.alloc (.cells #[.int .u32 (2 : Nat), .slice a1 2 n1, .slice (some ⟨b, o, none⟩) 1 n2, .int .u32 (0 : Nat)] 43) = w6 at *
  have t2 : w6.cell? ⟨T, 2, none⟩ = some (.slice (some ⟨b, o, none⟩) 1 n2) := cell_at hz
  have HB6 := Lib.hid (HB5.out.trans (hal.mono HB5.out.size))
  replace q0 := below_cells hal _ _ q0
  replace c0 := below_cells hal _ _ c0
  replace c1 := below_cells hal _ _ c1
  replace e2 := below_cells hal _ _ e2
  replace c3 := below_cells hal _ _ c3
  replace c4 := below_cells hal _ _ c4
  replace c5 := below_cells hal _ _ c5
  replace c6 := below_cells hal _ _ c6
  replace c7 := below_cells hal _ _ c7
  replace d0 := below_cells hal _ _ d0
  replace d1 := below_cells hal _ _ d1
  clear hz hal hT HB5
  go_wp2_with fail
  refine (HW3.out w6).mono ?_
  rintro e w7 ⟨v, rfl, htx, hb⟩
  have HB7 := Lib.hid (HB6.out.trans (hb.mono HB6.out.size))
  replace q0 := below_cells hb _ _ q0
  replace t2 := below_cells hb _ _ t2
  clear hb HB6 HW3 c0 c1 e2 c3 c4 c5 c6 c7 d0 d1
  obtain ⟨va, vo, rfl, ha, hob, -, -⟩ := htx
  obtain ⟨a1, m1, rfl, -, -⟩ := ha.shape
  obtain ⟨a2, m2, rfl, -, -⟩ := hob.shape
  rw [show (noTx, (2 : Int)).1.ver = 0 from rfl, show (noTx, (2 : Int)).1.lock = 0 from rfl, show (noTx, (2 : Int)).1.ins.length = 0 from rfl, show (noTx, (2 : Int)).1.outs.length = 0 from rfl]
  clear ha hob
  go_upto_region 6 with fail
  have hz := heap_alloc_new w7 (.cells #[.int .u32 (0 : Nat), .slice a1 0 m1, .slice a2 0 m2, .int .u32 (0 : Nat)] 43)
  have hal : Below w7.heap.size w7 (w7.alloc (.cells #[.int .u32 (0 : Nat), .slice a1 0 m1, .slice a2 0 m2, .int .u32 (0 : Nat)] 43)) := (Below.refl _ _).alloc (Nat.le_refl _) _
  obtain ⟨U, hU⟩ : ∃ q, q = w7.heap.size := ⟨_, rfl⟩
  rw [← hU] at hz ⊢
  generalize w7.alloc (.cells #[.int .u32 (0 : Nat), .slice a1 0 m1, .slice a2 0 m2, .int .u32 (0 : Nat)] 43) = w8 at *
  have HB8 := Lib.hid (HB7.out.trans (hal.mono HB7.out.size))
  replace q0 := below_cells hal _ _ q0
  replace t2 := below_cells hal _ _ t2
  clear hz hal hU HB7
  go_wp2_with fail
  refine (csize_any w8).mono ?_
  rintro e w9 ⟨rfl, hb⟩
  have HB9 := Lib.hid (HB8.out.trans (hb.mono HB8.out.size))
  replace q0 := below_cells hb _ _ q0
  replace t2 := below_cells hb _ _ t2
  clear hb HB8
  go_wp2_with fail
  go_ret
  exact ⟨rfl, HB9.out⟩
end Go.Proofs.Ytmakghcoehkphaa
end

section
/-
  ChildBids: the walk. Conditions: the numbers are ints.
-/
namespace Go.Proofs.Ytmakghcoehkphaa
open Go.RowKit Go.BigFrame
set_option linter.unusedVariables false
set_option linter.unusedSimpArgs false

set_option maxRecDepth 100000 in
set_option maxHeartbeats 4000000 in
theorem childBids_walk (r f s : Int) (w : World) (hr : (Lit.int .i64 r).wf = true) (hf : (Lit.int .i64 f).wf = true) (hs : (Lit.int .i64 s).wf = true) : Calls Try.prog 4 #[.int .i64 r, .int .i64 f, .int .i64 s] w (BIs true w) := by
  go_enter Try.func4, Try.ntmps4
  go_wp2_with fail
  generalize max 0 r % 100000001 = r1 at *
  generalize max 0 f % 1000000 = f1 at *
  generalize max 0 s % 200000 = s1 at *
  generalize max 0 r % 50000 = r2 at *
  generalize max 0 f % 5000 = f2 at *
  generalize max 0 s % 1000 = s2 at *
  have hz := heap_alloc_new w (.cells #[.int .i64 r, .int .i64 f, .int .i64 s, .int .i64 r1, .int .i64 f1, .int .i64 s1, .int .i64 r2, .int .i64 f2, .int .i64 s2] 55)
  have hal : Below w.heap.size w (w.alloc (.cells #[.int .i64 r, .int .i64 f, .int .i64 s, .int .i64 r1, .int .i64 f1, .int .i64 s1, .int .i64 r2, .int .i64 f2, .int .i64 s2] 55)) := (Below.refl _ _).alloc (Nat.le_refl _) _
  obtain ⟨B, hB⟩ : ∃ q, q = w.heap.size := ⟨_, rfl⟩
  rw [← hB] at hz ⊢
  generalize w.alloc (.cells #[.int .i64 r, .int .i64 f, .int .i64 s, .int .i64 r1, .int .i64 f1, .int .i64 s1, .int .i64 r2, .int .i64 f2, .int .i64 s2] 55) = w0 at *
  have HB0 := Lib.hid hal
  have HROW := Lib.hid hz
  clear hz hal hB hr hf hs
  go_loopg [39] 3 (fun g i wr => ∃ k : Nat, g = 3 - k ∧ k ≤ 3 ∧ i = .int .i64 k ∧ Below w.heap.size w wr ∧ wr.heap[B]? = some (.cells #[.int .i64 r, .int .i64 f, .int .i64 s, .int .i64 r1, .int .i64 f1, .int .i64 s1, .int .i64 r2, .int .i64 f2, .int .i64 s2] 55 (0, 0)))
  case atStart => exact ⟨0, rfl, by omega, rfl, HB0.out, HROW.out⟩
  case round =>
    clear HB0 HROW
    rename World => wo
    obtain ⟨k, hgk, hk, rfl, hb, hrow⟩ := hrel
    have HGK := Lib.hid hgk
    have HB := Lib.hid hb
    have HROW := Lib.hid hrow
    clear hgk hb hrow
    obtain rfl | rfl | rfl | rfl : k = 0 ∨ k = 1 ∨ k = 2 ∨ k = 3 := by omega
    · have x0 : wo.cell? ⟨B, 0, none⟩ = some (.int .i64 r) := cell_at HROW.out
      have x1 : wo.cell? ⟨B, 1, none⟩ = some (.int .i64 f) := cell_at HROW.out
      have x2 : wo.cell? ⟨B, 2, none⟩ = some (.int .i64 s) := cell_at HROW.out
      have HQ1 := Lib.hid (fun y => cbid_any r f s y)
      have HQ2 := Lib.hid (fun y => rbid_any r f s y)
      generalize bidE r f s = bd at *
      obtain ⟨n, er⟩ := bd
      go_upto_region 4 with fail
      have hz := heap_alloc_new wo (.cells #[.int .i64 r, .int .i64 f, .int .i64 s] 55)
      have hal : Below wo.heap.size wo (wo.alloc (.cells #[.int .i64 r, .int .i64 f, .int .i64 s] 55)) := (Below.refl _ _).alloc (Nat.le_refl _) _
      obtain ⟨Y, hY⟩ : ∃ q, q = wo.heap.size := ⟨_, rfl⟩
      rw [← hY] at hz ⊢
      generalize wo.alloc (.cells #[.int .i64 r, .int .i64 f, .int .i64 s] 55) = w1 at *
      have y0 : w1.cell? ⟨Y, 0, none⟩ = some (.int .i64 r) := cell_at hz
      have y1 : w1.cell? ⟨Y, 1, none⟩ = some (.int .i64 f) := cell_at hz
      have y2 : w1.cell? ⟨Y, 2, none⟩ = some (.int .i64 s) := cell_at hz
      have HB1 := Lib.hid (HB.out.trans (hal.mono HB.out.size))
      have HROW := Lib.hid (stay HROW.out hal)
      clear hz hal hY x0 x1 x2 HB
      go_wp2_with fail
      refine (HQ1.out w1).mono ?_
      rintro e w2 ⟨rfl, hb⟩
      have HB2 := Lib.hid (HB1.out.trans (hb.mono HB1.out.size))
      have HROW := Lib.hid (stay HROW.out hb)
      replace y0 := below_cells hb _ _ y0
      replace y1 := below_cells hb _ _ y1
      replace y2 := below_cells hb _ _ y2
      clear hb HB1 HQ1
      go_wp2_with fail
      refine (HQ2.out w2).mono ?_
      rintro e w3 ⟨rfl, hb⟩
      have HB3 := Lib.hid (HB2.out.trans (hb.mono HB2.out.size))
      have HROW := Lib.hid (stay HROW.out hb)
      clear hb HB2 HQ2 y0 y1 y2
      go_wp2_with fail
      go_roundg 2
      case measure => have := HGK.out; omega
      case rel => exact ⟨1, rfl, by omega, by first | rfl | go_num, HB3.out, HROW.out⟩
    · have x0 : wo.cell? ⟨B, 3, none⟩ = some (.int .i64 r1) := cell_at HROW.out
      have x1 : wo.cell? ⟨B, 4, none⟩ = some (.int .i64 f1) := cell_at HROW.out
      have x2 : wo.cell? ⟨B, 5, none⟩ = some (.int .i64 s1) := cell_at HROW.out
      have HQ1 := Lib.hid (fun y => cbid_any r1 f1 s1 y)
      have HQ2 := Lib.hid (fun y => rbid_any r1 f1 s1 y)
      generalize bidE r1 f1 s1 = bd at *
      obtain ⟨n, er⟩ := bd
      go_upto_region 4 with fail
      have hz := heap_alloc_new wo (.cells #[.int .i64 r1, .int .i64 f1, .int .i64 s1] 55)
      have hal : Below wo.heap.size wo (wo.alloc (.cells #[.int .i64 r1, .int .i64 f1, .int .i64 s1] 55)) := (Below.refl _ _).alloc (Nat.le_refl _) _
      obtain ⟨Y, hY⟩ : ∃ q, q = wo.heap.size := ⟨_, rfl⟩
      rw [← hY] at hz ⊢
      generalize wo.alloc (.cells #[.int .i64 r1, .int .i64 f1, .int .i64 s1] 55) = w1 at *
      have y0 : w1.cell? ⟨Y, 0, none⟩ = some (.int .i64 r1) := cell_at hz
      have y1 : w1.cell? ⟨Y, 1, none⟩ = some (.int .i64 f1) := cell_at hz
      have y2 : w1.cell? ⟨Y, 2, none⟩ = some (.int .i64 s1) := cell_at hz
      have HB1 := Lib.hid (HB.out.trans (hal.mono HB.out.size))
      have HROW := Lib.hid (stay HROW.out hal)
      clear hz hal hY x0 x1 x2 HB
      go_wp2_with fail
      refine (HQ1.out w1).mono ?_
      rintro e w2 ⟨rfl, hb⟩
      have HB2 := Lib.hid (HB1.out.trans (hb.mono HB1.out.size))
      have HROW := Lib.hid (stay HROW.out hb)
      replace y0 := below_cells hb _ _ y0
      replace y1 := below_cells hb _ _ y1
      replace y2 := below_cells hb _ _ y2
      clear hb HB1 HQ1
      go_wp2_with fail
      refine (HQ2.out w2).mono ?_
      rintro e w3 ⟨rfl, hb⟩
      have HB3 := Lib.hid (HB2.out.trans (hb.mono HB2.out.size))
      have HROW := Lib.hid (stay HROW.out hb)
      clear hb HB2 HQ2 y0 y1 y2
      go_wp2_with fail
      go_roundg 1
      case measure => have := HGK.out; omega
      case rel => exact ⟨2, rfl, by omega, by first | rfl | go_num, HB3.out, HROW.out⟩
    · have x0 : wo.cell? ⟨B, 6, none⟩ = some (.int .i64 r2) := cell_at HROW.out
      have x1 : wo.cell? ⟨B, 7, none⟩ = some (.int .i64 f2) := cell_at HROW.out
      have x2 : wo.cell? ⟨B, 8, none⟩ = some (.int .i64 s2) := cell_at HROW.out
      have HQ1 := Lib.hid (fun y => cbid_any r2 f2 s2 y)
      have HQ2 := Lib.hid (fun y => rbid_any r2 f2 s2 y)
      generalize bidE r2 f2 s2 = bd at *
      obtain ⟨n, er⟩ := bd
      go_upto_region 4 with fail
      have hz := heap_alloc_new wo (.cells #[.int .i64 r2, .int .i64 f2, .int .i64 s2] 55)
      have hal : Below wo.heap.size wo (wo.alloc (.cells #[.int .i64 r2, .int .i64 f2, .int .i64 s2] 55)) := (Below.refl _ _).alloc (Nat.le_refl _) _
      obtain ⟨Y, hY⟩ : ∃ q, q = wo.heap.size := ⟨_, rfl⟩
      rw [← hY] at hz ⊢
      generalize wo.alloc (.cells #[.int .i64 r2, .int .i64 f2, .int .i64 s2] 55) = w1 at *
      have y0 : w1.cell? ⟨Y, 0, none⟩ = some (.int .i64 r2) := cell_at hz
      have y1 : w1.cell? ⟨Y, 1, none⟩ = some (.int .i64 f2) := cell_at hz
      have y2 : w1.cell? ⟨Y, 2, none⟩ = some (.int .i64 s2) := cell_at hz
      have HB1 := Lib.hid (HB.out.trans (hal.mono HB.out.size))
      have HROW := Lib.hid (stay HROW.out hal)
      clear hz hal hY x0 x1 x2 HB
      go_wp2_with fail
      refine (HQ1.out w1).mono ?_
      rintro e w2 ⟨rfl, hb⟩
      have HB2 := Lib.hid (HB1.out.trans (hb.mono HB1.out.size))
      have HROW := Lib.hid (stay HROW.out hb)
      replace y0 := below_cells hb _ _ y0
      replace y1 := below_cells hb _ _ y1
      replace y2 := below_cells hb _ _ y2
      clear hb HB1 HQ1
      go_wp2_with fail
      refine (HQ2.out w2).mono ?_
      rintro e w3 ⟨rfl, hb⟩
      have HB3 := Lib.hid (HB2.out.trans (hb.mono HB2.out.size))
      have HROW := Lib.hid (stay HROW.out hb)
      clear hb HB2 HQ2 y0 y1 y2
      go_wp2_with fail
      go_roundg 0
      case measure => have := HGK.out; omega
      case rel => exact ⟨3, rfl, by omega, by first | rfl | go_num, HB3.out, HROW.out⟩
    · go_wp2_with fail
      refine (wakes24_any wo).mono ?_
      rintro e w1 ⟨rfl, hb⟩
      have HB1 := Lib.hid (HB.out.trans (hb.mono HB.out.size))
      clear hb
      go_wp2_with fail
      go_ret
      exact ⟨rfl, HB1.out⟩
end Go.Proofs.Ytmakghcoehkphaa
end

section
/-
  ChildBids returns true for every input, and each argument reads behind the call as before. Conditions: none beyond the statement's own.
-/
namespace Go.Proofs.Ytmakghcoehkphaa.childBidsDone
open Go.ChangeShapes Go.WideShapes Go.ChangeAt Go.RowKit
open Go.ChangeMaps (open_string shut_string)
set_option linter.unusedVariables false

theorem own : ownKnob Try.prog.godebug = none := by kernel_rfl
theorem laidOut : laidOutB Try.prog = true := by kernel_rfl

set_option maxRecDepth 100000 in
theorem lifted (os : Os) (started : os.Started) (H : Type) (enc : TypeId × Value → H) :
    ReturnsInHanded {} Try.checked os 4 .any (Rows.childBidsSpec.pre6 enc Try.prog Try.f4 Rows.childBidsRow.domain false) (Rows.childBidsSpec.post enc Try.prog Try.f4 false true false false) := by
  refine returnsInHanded_of_change (C := Try.checked) own started (by kernel_rfl) Try.func4
    (ChangeSpec.witness6 (enc := enc) (C := Try.checked) false ⟨#[], #[.int .i64 0, .int .i64 0, .int .i64 0], []⟩ 8 (by kernel_rfl) (by kernel_rfl) (by kernel_rfl) (by kernel_rfl)) ?_
  intro W base args ds gs before hval0 hW hcnd _
  have hval : ∀ (j : Nat) t v, Try.f4.params[j]? = some t → args[j]? = some v → Value.okWide Try.prog W .any base t v := hval0
  have hW' := hW
  obtain ⟨p, q, hA0, hV, rfl, hfz, hnd⟩ := hW
  have hA : DataW.TrodAll enc Try.prog W 0 (fun _ => true) true Try.f4.params.toList args.toList ds p := hA0
  rw [Try.params4] at hA hval
  obtain ⟨v0, vs0, d0, ds0, p0, q0, hargs, rfl, rfl, h0, r0⟩ := trodAll_cons hA
  obtain ⟨v1, vs1, d1, ds1, p1, q1, rfl, rfl, rfl, h1, r1⟩ := trodAll_cons r0
  obtain ⟨v2, vs2, d2, ds2, p2, q2, rfl, rfl, rfl, h2, r2⟩ := trodAll_cons r1
  obtain ⟨rfl, rfl, rfl⟩ := trodAll_nil r2
  obtain rfl : args = #[v0, v1, v2] := by cases args; simp_all
  obtain ⟨rfl, rfl⟩ := trodVars_none hV
  have k0 := h0
  have lt0 : ∀ x ∈ p0, x.block < W.heap.size := by obtain ⟨m, hm⟩ := k0; exact DataW.trod_lt m _ _ _ hm
  obtain ⟨a0, rfl, rfl, rfl, w0⟩ := open_int Try.underlying3 (hval 0 3 v0 rfl rfl) h0
  have k1 := h1
  have lt1 : ∀ x ∈ p1, x.block < W.heap.size := by obtain ⟨m, hm⟩ := k1; exact DataW.trod_lt m _ _ _ hm
  obtain ⟨a1, rfl, rfl, rfl, w1⟩ := open_int Try.underlying3 (hval 1 3 v1 rfl rfl) h1
  have k2 := h2
  have lt2 : ∀ x ∈ p2, x.block < W.heap.size := by obtain ⟨m, hm⟩ := k2; exact DataW.trod_lt m _ _ _ hm
  obtain ⟨a2, rfl, rfl, rfl, w2⟩ := open_int Try.underlying3 (hval 2 3 v2 rfl rfl) h2
  clear hA0 hval0
  refine (childBids_walk a0 a1 a2 W w0 w1 w2).mono fun e W' ⟨he, bel⟩ => ?_
  subst he
  exact ⟨_, rfl, _, _, _, [], _, [], hW', trodAll_mk1 (shut_bool Try.underlying4 _), (trodAll_cons_mk (Below.trod laidOut (by kernel_rfl) (of_decide_eq_true (by kernel_rfl)) k0 bel lt0) (trodAll_cons_mk (Below.trod laidOut (by kernel_rfl) (of_decide_eq_true (by kernel_rfl)) k1 bel lt1) (trodAll_cons_mk (Below.trod laidOut (by kernel_rfl) (of_decide_eq_true (by kernel_rfl)) k2 bel lt2) trodAll_mk0))), rfl, bel.frame _, fun h => by cases h⟩

theorem proved : Rows.ChildBidsSaid :=
  OpenClaim.holds_of_wide 4 Try.f4 rfl rfl rfl rfl rfl rfl rfl ⟨rfl, rfl, rfl, rfl, rfl⟩ rfl rfl rfl rfl rfl (by kernel_rfl) Try.func4 (by kernel_rfl)
    (of_decide_eq_true (by kernel_rfl)) (by unfold Func.isWrapper; first | (rw [if_pos (by decide +kernel)]; kernel_rfl) | (rw [if_neg (by decide +kernel)]; exact ⟨rfl, rfl⟩))
    (fun os started H enc _ => lifted os started H enc)

#print axioms proved
end Go.Proofs.Ytmakghcoehkphaa.childBidsDone
end
