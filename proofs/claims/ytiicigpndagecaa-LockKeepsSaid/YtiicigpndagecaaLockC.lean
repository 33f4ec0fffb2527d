/-
  LockOpens: the walk. Conditions: none.
-/
import Derived.Test.YtiicigpndagecaaLockU
namespace Go.Proofs.Ytiicigpndagecaa
open Go.RowKit Go.BigFrame
set_option linter.unusedVariables false
set_option linter.unusedSimpArgs false

theorem box_kept {w w1 : World} {cs : Array Value} {e : TypeId} (hb : Below (w.alloc (.cells cs e)).heap.size (w.alloc (.cells cs e)) w1) : w1.heap[w.heap.size]? = some (.cells cs e (0, 0)) := by
  rw [hb.block _ (by simp)]
  exact heap_alloc_new w _
structure OpenSt (w2 : World) (u0 u1 u2 u3 : Value) (i0 i1 : Int) (w3 : World) : Prop where
  bel : Below w2.heap.size w2 w3
  t0 : w3.cell? ⟨w2.heap.size, 0, none⟩ = some u0
  t1 : w3.cell? ⟨w2.heap.size, 1, none⟩ = some u1
  t2 : w3.cell? ⟨w2.heap.size, 2, none⟩ = some u2
  t3 : w3.cell? ⟨w2.heap.size, 3, none⟩ = some u3
  i0 : w3.cell? ⟨w2.heap.size + 1, 0, none⟩ = some (.int .i64 i0)
  i1 : w3.cell? ⟨w2.heap.size + 1, 1, none⟩ = some (.int .i64 i1)
theorem open_start (w2 : World) (u0 u1 u2 u3 : Value) (i0 i1 : Int) (e1 e2 : TypeId) : OpenSt w2 u0 u1 u2 u3 i0 i1 ((w2.alloc (.cells #[u0, u1, u2, u3] e1)).alloc (.cells #[.int .i64 i0, .int .i64 i1] e2)) := by
  have hs : (w2.alloc (.cells #[u0, u1, u2, u3] e1)).heap.size = w2.heap.size + 1 := by simp
  refine ⟨((Below.refl _ _).alloc (Nat.le_refl _) _).alloc (by rw [hs]; omega) _, ?_, ?_, ?_, ?_, ?_, ?_⟩
  · exact cell_over (by rw [cell_at (heap_alloc_new w2 _)]; rfl) _
  · exact cell_over (by rw [cell_at (heap_alloc_new w2 _)]; rfl) _
  · exact cell_over (by rw [cell_at (heap_alloc_new w2 _)]; rfl) _
  · exact cell_over (by rw [cell_at (heap_alloc_new w2 _)]; rfl) _
  · rw [← hs, cell_at (heap_alloc_new _ _)]; rfl
  · rw [← hs, cell_at (heap_alloc_new _ _)]; rfl
theorem kept_on {w w1 : World} {b : Nat} {ob : Obj} (h : w.heap[b]? = some ob) (hb : Below w.heap.size w w1) : w1.heap[b]? = some ob := (hb.block _ (Array.getElem?_eq_some_iff.1 h).1).trans h

set_option maxRecDepth 100000 in
set_option maxHeartbeats 4000000 in
theorem lockOpens_walk (v : Value) (z : PSpend) (w : World) (hv : SpAt w v z) :
    Calls Try.prog 3 #[v] w fun e w' => e = .returned (.bool true) ∧ Below w.heap.size w w' := by
  obtain ⟨vb, va, vo, rfl, hb, ht⟩ := hv.is
  have HV := Lib.hid hv
  clear hv hb ht
  obtain ⟨xs, s, t, n3, n4, n5, raw, own, br, tg⟩ := z
  dsimp only at *
  have ha : Below w.heap.size w (w.alloc (.cells #[vb, .string s, .int .u32 t.ver, va, vo, .int .u32 t.lock, .int .i64 n3, .int .i64 n4, .int .i64 n5, .bool raw, .bool own, .int .u8 br, .int .u8 tg] 29)) := (Below.refl _ _).alloc (Nat.le_refl _) _
  have HAL := Lib.hid ha
  clear ha
  go_enter Try.func3, Try.ntmps3
  go_wp2_with fail
  refine (script_any _ _ _ (HV.out.below HAL.out)).mono ?_
  rintro e w1 ⟨sc, rfl, hsc, hb1⟩
  have hz1 := box_kept hb1
  have H1 := Lib.hid (HAL.out.trans (hb1.mono HAL.out.size))
  have zw1_0 : w1.cell? ⟨w.heap.size, 0, none⟩ = some (vb) := cell_at hz1
  have zw1_1 : w1.cell? ⟨w.heap.size, 1, none⟩ = some (.string s) := cell_at hz1
  have zw1_2 : w1.cell? ⟨w.heap.size, 2, none⟩ = some (.int .u32 t.ver) := cell_at hz1
  have zw1_3 : w1.cell? ⟨w.heap.size, 3, none⟩ = some (va) := cell_at hz1
  have zw1_4 : w1.cell? ⟨w.heap.size, 4, none⟩ = some (vo) := cell_at hz1
  have zw1_5 : w1.cell? ⟨w.heap.size, 5, none⟩ = some (.int .u32 t.lock) := cell_at hz1
  have zw1_6 : w1.cell? ⟨w.heap.size, 6, none⟩ = some (.int .i64 n3) := cell_at hz1
  have zw1_7 : w1.cell? ⟨w.heap.size, 7, none⟩ = some (.int .i64 n4) := cell_at hz1
  have zw1_8 : w1.cell? ⟨w.heap.size, 8, none⟩ = some (.int .i64 n5) := cell_at hz1
  have zw1_9 : w1.cell? ⟨w.heap.size, 9, none⟩ = some (.bool raw) := cell_at hz1
  have zw1_10 : w1.cell? ⟨w.heap.size, 10, none⟩ = some (.bool own) := cell_at hz1
  have zw1_11 : w1.cell? ⟨w.heap.size, 11, none⟩ = some (.int .u8 br) := cell_at hz1
  have zw1_12 : w1.cell? ⟨w.heap.size, 12, none⟩ = some (.int .u8 tg) := cell_at hz1
  have HZ1 := Lib.hid hz1
  clear hz1 hb1
  go_wp2_with fail
  refine (spending_any _ _ _ (HV.out.below H1.out)).mono ?_
  rintro e w2 ⟨v2, t2, i2, rfl, ht2, hi2, hb2⟩
  have hz2 := kept_on HZ1.out hb2
  have H2 := Lib.hid (H1.out.trans (hb2.mono H1.out.size))
  have zw2_6 : w2.cell? ⟨w.heap.size, 6, none⟩ = some (.int .i64 n3) := cell_at hz2
  obtain ⟨va2, vo2, rfl, hia, hoa, hver, hlock⟩ := id ht2
  obtain ⟨ver2, ins2, outs2, lock2⟩ := t2
  dsimp only at hia hoa hver hlock
  obtain ⟨a2, c2, rfl, -, -⟩ := hia.shape
  obtain ⟨a3, c3, rfl, -, -⟩ := hoa.shape
  have HT2 := Lib.hid ht2
  have HI3 := Lib.hid HV.out.in_
  have HZ2 := Lib.hid hz2
  clear hz2 hb2 ht2 hia hoa hver hlock
  generalize hn2 : ins2.length = N2 at *
  generalize hm2 : outs2.length = M2 at *
  have HNM := Lib.hid (And.intro hn2 hm2)
  have z6' := fun ob => cell_over zw2_6 ob
  clear hn2 hm2
  go_wp2_with fail
  have hcell := open_start w2 (.int .u32 ver2) (.slice a2 N2 c2) (.slice a3 M2 c3) (.int .u32 lock2) i2 n3 27 3
  generalize (w2.alloc (.cells #[.int .u32 ver2, .slice a2 N2 c2, .slice a3 M2 c3, .int .u32 lock2] 27)).alloc (.cells #[.int .i64 i2, .int .i64 n3] 3) = w3 at *
  have HC := Lib.hid hcell
  clear hcell
  go_loopg [7, 20] 2 (fun g _ i wr => ∃ k : Nat, g = 2 - k ∧ k ≤ 2 ∧ i = .int .i64 k ∧ Below w3.heap.size w3 wr)
  case atStart => exact ⟨0, rfl, by omega, rfl, Below.refl _ _⟩
  case round =>
    obtain ⟨k, hgk, hk2, rfl, hbw⟩ := hrel
    have HGK := Lib.hid hgk
    have HBW := Lib.hid hbw
    clear hgk hbw
    have HTX := Lib.hid ((HT2.out.below HC.out.bel).below HBW.out)
    have HALL := Lib.hid ((H2.out.trans (HC.out.bel.mono H2.out.size)).trans (HBW.out.mono (by have := HC.out.bel.size; have := H2.out.size; omega)))
    by_cases hlt : k < 2
    · obtain ⟨y, hy⟩ : ∃ y : Int, wr.cell? ⟨w2.heap.size + 1, k, none⟩ = some (.int .i64 y) := by
        match k, hlt with
        | 0, _ => exact ⟨i2, below_cells HBW.out _ _ HC.out.i0⟩
        | 1, _ => exact ⟨n3, below_cells HBW.out _ _ HC.out.i1⟩
      obtain ⟨C, hC⟩ : ∃ C : World → Prop, C = fun w' => Below wr.heap.size wr w' := ⟨_, rfl⟩
      have hk0 : ∀ q : Kin C, q.w.cell? ⟨w2.heap.size, 0, none⟩ = some (.int .u32 ver2) := by
        intro ⟨q, h⟩; subst hC; exact below_cells h _ _ (below_cells HBW.out _ _ HC.out.t0)
      have hk1 : ∀ q : Kin C, q.w.cell? ⟨w2.heap.size, 1, none⟩ = some (.slice a2 N2 c2) := by
        intro ⟨q, h⟩; subst hC; exact below_cells h _ _ (below_cells HBW.out _ _ HC.out.t1)
      have hk2' : ∀ q : Kin C, q.w.cell? ⟨w2.heap.size, 2, none⟩ = some (.slice a3 M2 c3) := by
        intro ⟨q, h⟩; subst hC; exact below_cells h _ _ (below_cells HBW.out _ _ HC.out.t2)
      have hk3 : ∀ q : Kin C, q.w.cell? ⟨w2.heap.size, 3, none⟩ = some (.int .u32 lock2) := by
        intro ⟨q, h⟩; subst hC; exact below_cells h _ _ (below_cells HBW.out _ _ HC.out.t3)
      have hstep : ∀ (x : Kin C) (w' : World), Below x.w.heap.size x.w w' → C w' := by
        intro ⟨x, h⟩ w' h2; subst hC; exact h.trans (h2.mono h.size)
      have htx : ∀ q : Kin C, TxAt q.w (.agg #[.int .u32 ver2, .slice a2 N2 c2, .slice a3 M2 c3, .int .u32 lock2]) ⟨ver2, ins2, outs2, lock2⟩ := by
        intro ⟨q, h⟩; subst hC; exact HTX.out.below h
      have HST := Lib.hid hstep
      have HCC := Lib.hid hC
      have HTK := Lib.hid htx
      clear hstep hC htx
      go_wp2_with fail
      refine wp_region_kin C (by kernel_rfl) (by kernel_rfl) (by rw [HCC.out]; exact (Below.refl _ _).drew) ?_
      intro hne
      repeat (first | (go_big_quiet_step (first | (rename_i x'; go_at_call 11; exact Calls.kin (open_any sc hsc _ _ y _ (HTK.out x')) (HST.out x')) | (rename_i x'; go_at_call 12; exact Calls.kin (ropen_any sc hsc _ _ y _ (HTK.out x')) (HST.out x')))) | (quiet_step (first | (rename_i x'; go_at_call 11; exact Calls.kin (open_any sc hsc _ _ y _ (HTK.out x')) (HST.out x')) | (rename_i x'; go_at_call 12; exact Calls.kin (ropen_any sc hsc _ _ y _ (HTK.out x')) (HST.out x')))))
      refine wpQuiet_nil ?_
      intro _ hw'
      obtain ⟨kx, hw''⟩ := hw'
      subst hw''
      obtain ⟨wy, hxc⟩ := kx
      rw [HCC.out] at hxc
      have HXC := Lib.hid hxc
      clear hxc
      go_wp2_with fail
      go_roundg (2 - (k + 1))
      case measure => have := HGK.out; omega
      case rel => exact ⟨k + 1, rfl, by omega, by go_num, HBW.out.trans (HXC.out.mono HBW.out.size)⟩
    · obtain rfl : k = 2 := by omega
      clear hlt
      go_wp2_with fail
      refine (wakes_any _).mono ?_
      rintro e w4 ⟨rfl, hb4⟩
      have H4 := Lib.hid (HALL.out.trans (hb4.mono HALL.out.size))
      clear hb4
      go_wp2
      go_ret
      exact ⟨rfl, H4.out⟩
end Go.Proofs.Ytiicigpndagecaa
