/-
  ChildSizes, part 4: the texts Ch, Ci, Cj, one after another. Conditions: none beyond those named at each.
-/
import Derived.Test.YtmakghcoehkphaaQ3ChildSizes
import Derived.BigRegion
section
/-
  The document's Build of a child. Conditions: the numbers are ones of their kinds.
-/
namespace Go.Proofs.Ytmakghcoehkphaa
open Go.RowKit Go.BigFrame
set_option linter.unusedVariables false
set_option linter.unusedSimpArgs false

theorem sum_add2 (a b : Int) : sumA 0 [a, b] = add2 a b := by
  unfold add2
  rw [sumA, Int.zero_add, sumA, sumA]
  cases h1 : goodA a <;> cases h2 : goodA b <;> cases h3 : goodA (a + b) <;> simp
theorem sl_two (w : World) (a b : Int) (ha : (Lit.int .i64 a).wf = true) (hb : (Lit.int .i64 b).wf = true) : SlAt (rpInt .i64) (w.alloc (.cells #[.int .i64 a, .int .i64 b] 3)) (.slice (some ⟨w.heap.size, 0, none⟩) 2 2) [a, b] := by
  refine ⟨_, 2, rfl, Nat.le_refl _, by decide, fun i x hi => ?_⟩
  match i, hi with
  | 0, hi =>
    obtain rfl := Option.some.inj hi
    refine ⟨_, 0, [.int .i64 a], rfl, rfl, fun j u hj => ?_, rfl, ha⟩
    rw [cell_at (heap_alloc_new w _)]
    match j, hj with
    | 0, hj => exact hj
  | 1, hi =>
    obtain rfl := Option.some.inj hi
    refine ⟨_, 0, [.int .i64 b], rfl, rfl, fun j u hj => ?_, rfl, hb⟩
    rw [cell_at (heap_alloc_new w _)]
    match j, hj with
    | 0, hj => exact hj
theorem rsum2_any (w : World) (a b : Int) (ha : (Lit.int .i64 a).wf = true) (hb : (Lit.int .i64 b).wf = true) : Calls Try.prog 28 #[.slice (some ⟨w.heap.size, 0, none⟩) 2 2] (w.alloc (.cells #[.int .i64 a, .int .i64 b] 3)) fun e w' =>
    e = .returned (.tuple #[.int .i64 (add2 a b).1, .int .i64 (add2 a b).2]) ∧ Below w.heap.size w w' :=
  (rasum_any _ [a, b] _ (sl_two w a b ha hb)).mono fun e w' ⟨h1, h2⟩ => ⟨by rw [h1, sum_add2], by rw [← h2]; exact (Below.refl _ _).alloc (Nat.le_refl _) _⟩
theorem first_child (V : Int) (tag : Nat) : firstD [⟨V, scrT tag⟩] 0 = if V < 255 then 0 else -1 := by
  rw [firstD, child_dust]
  by_cases h : V < 255
  · rw [decide_eq_true h, if_pos h]; rfl
  · rw [decide_eq_false h, if_neg h]; rfl
theorem child_new {base : Nat} {w : World} {b1 b2 p1 p2 : Nat} {a : PCl} {cid : ByteArray} {ci tag : Nat} {v : Int} (ho : a.Ok) (hc : cid.size ≤ maxLen) (hci : ci < 4294967296) (hv : -9223372036854775808 ≤ v ∧ v ≤ 9223372036854775807)
    (h1 : w.heap[b1]? = some (.cells #[.string a.id, .int .u32 a.idx, .int .u32 (seqOf a.lock.delay), .slice (some ⟨p1, 0, none⟩) 1 1, .string cid, .int .u32 ci, .int .u32 4294967293, .slice (some ⟨p2, 0, none⟩) 1 1] 81 (0, 0)))
    (h2 : w.heap[b2]? = some (.cells #[.int .i64 v, .string (scrT tag)] 37 (0, 0))) (g1 : w.heap[p1]? = some (.cells #[.string (signW a.br.toNat tag)] 9 (0, 0))) (g2 : w.heap[p2]? = some (.cells #[.string (signW 0 tag)] 9 (0, 0)))
    (k : base ≤ b1 ∧ base ≤ b2 ∧ base ≤ p1 ∧ base ≤ p2) : TxNew base w (txV b1 b2) (childTx a cid ci tag v) := fun w' hw' => by
  have key : ∀ (q : Nat) (ob : Obj), base ≤ q → w.heap[q]? = some ob → w'.heap[q]? = some ob := fun q ob hq hg => (hw' q hq (Array.getElem?_eq_some_iff.1 hg).1).trans hg
  exact child_at ho hc hci hv (key b1 _ k.1 h1) (key b2 _ k.2.1 h2) (key p1 _ k.2.2.1 g1) (key p2 _ k.2.2.2 g2)
theorem stay {w w1 : World} {b : Nat} {ob : Obj} (h : w.heap[b]? = some ob) (hb : Below w.heap.size w w1) : w1.heap[b]? = some ob := (hb.block _ (Array.getElem?_eq_some_iff.1 h).1).trans h
theorem stay_set {w : World} {b B j : Nat} {ob : Obj} {u : Value} (h : w.heap[b]? = some ob) (hb : b ≠ B) : (w.setCell ⟨B, j, none⟩ u).heap[b]? = some ob := (Below.heap_setCell _ _ _ _ hb).trans h
theorem lt_of {w : World} {b : Nat} {ob : Obj} (h : w.heap[b]? = some ob) : b < w.heap.size := (Array.getElem?_eq_some_iff.1 h).1
/-- One block of a world has these cells, the others are another world's. -/
structure AB (wA : World) (A : Nat) (cs : Array Value) (t : TypeId) (wx : World) : Prop where
  other : ∀ b, b ≠ A → wx.heap[b]? = wA.heap[b]?
  here : wx.heap[A]? = some (.cells cs t (0, 0))
  bel : Below A wA wx

set_option maxRecDepth 100000 in
set_option maxHeartbeats 4000000 in
theorem rbuild_any (a : PCl) (cid : ByteArray) (ci : Nat) (cv : Int) (cs : ByteArray) (ch : Int) (tag : Nat) (fee : Int) (ho : a.Ok) (hc : cid.size ≤ maxLen) (hci : ci < 4294967296) (hcv : (Lit.int .i64 cv).wf = true) (ht : tag < 65536) (w : World) :
    Calls Try.prog 9 #[clV a, enV cid ci cv cs ch, .int .u16 tag, .int .i64 fee] w (BuildIs (childOf a cid ci cv tag fee) w) := by
  obtain ⟨z, hzz⟩ : ∃ z, z = childOf a cid ci cv tag fee := ⟨_, rfl⟩
  rw [← hzz]
  have HOK := Lib.hid ho
  have hhg := ho.lock.height
  have hdl := ho.lock.delay
  have HVW := Lib.hid (wf_of ho.val)
  unfold clV enV
  clear ho
  go_enter Try.func9, Try.ntmps9
  go_upto_region 1 with fail
  obtain ⟨X, hX⟩ : ∃ q, q = w.heap.size := ⟨_, rfl⟩
  have hnews := new3 w X hX (.cells #[.string a.id, .int .u32 a.idx, .int .i64 a.val, .int .i64 a.br, .int .u16 a.lock.tag, .int .u16 a.lock.delay, .int .u32 a.lock.height, .int .i64 a.dead] 29) (.cells #[.string cid, .int .u32 ci, .int .i64 cv, .string cs, .int .i64 ch] 51) (.cells #[.int .u32 0, .slice none 0 0, .slice none 0 0, .int .u32 0] 43)
  rw [← hX]
  generalize (((w.alloc (.cells #[.string a.id, .int .u32 a.idx, .int .i64 a.val, .int .i64 a.br, .int .u16 a.lock.tag, .int .u16 a.lock.delay, .int .u32 a.lock.height, .int .i64 a.dead] 29)).alloc (.cells #[.string cid, .int .u32 ci, .int .i64 cv, .string cs, .int .i64 ch] 51)).alloc (.cells #[.int .u32 0, .slice none 0 0, .slice none 0 0, .int .u32 0] 43)) = w0 at *
  obtain ⟨hz0, hz1, hz2, hal⟩ := hnews
  have hX2 : w.heap.size ≤ X + 1 + 1 := by omega
  have hXX : w.heap.size ≤ X := by omega
  have hl2 : X + 1 + 1 < w0.heap.size := (Array.getElem?_eq_some_iff.1 hz2).1
  have HB0 := Lib.hid hal
  have HZ0 := Lib.hid hz0
  have HZ1 := Lib.hid hz1
  have HZ2 := Lib.hid hz2
  clear hz0 hz1 hz2 hal hX
  go_upto_region 2 with fail
  have hz := heap_alloc_new w0 (.cells #[.int .u32 0, .slice none 0 0, .slice none 0 0, .int .u32 0] 43)
  have hal : Below w0.heap.size w0 (w0.alloc (.cells #[.int .u32 0, .slice none 0 0, .slice none 0 0, .int .u32 0] 43)) := (Below.refl _ _).alloc (Nat.le_refl _) _
  obtain ⟨N, hN⟩ : ∃ q, q = w0.heap.size := ⟨_, rfl⟩
  rw [← hN] at hz ⊢
  generalize w0.alloc (.cells #[.int .u32 0, .slice none 0 0, .slice none 0 0, .int .u32 0] 43) = w1 at *
  have hl3 : X + 1 + 1 < w1.heap.size := Nat.lt_of_lt_of_le hl2 hal.size
  have hN1 : X + 1 + 1 < N := by omega
  have hN2 : N < w1.heap.size := (Array.getElem?_eq_some_iff.1 hz).1
  have HB1 := Lib.hid (HB0.out.trans (hal.mono HB0.out.size))
  have HN0 := Lib.hid hz
  have HZ0 := Lib.hid ((hal.block X (by omega)).trans HZ0.out)
  have HZ1 := Lib.hid ((hal.block (X + 1) (by omega)).trans HZ1.out)
  have HZ2 := Lib.hid ((hal.block _ hl2).trans HZ2.out)
  clear hal hz hN HB0
  have c3 : w1.cell? ⟨X, 3, none⟩ = some (.int .i64 a.br) := cell_at HZ0.out
  have c6 : w1.cell? ⟨X, 6, none⟩ = some (.int .u32 a.lock.height) := cell_at HZ0.out
  have n0 : w1.cell? ⟨N, 0, none⟩ = some (.int .u32 0) := cell_at HN0.out
  have n1 : w1.cell? ⟨N, 1, none⟩ = some (.slice none 0 0) := cell_at HN0.out
  have n2 : w1.cell? ⟨N, 2, none⟩ = some (.slice none 0 0) := cell_at HN0.out
  have n3 : w1.cell? ⟨N, 3, none⟩ = some (.int .u32 0) := cell_at HN0.out
  have r0 : w1.cell? ⟨X + 1 + 1, 0, none⟩ = some (.int .u32 0) := cell_at HZ2.out
  have r1 : w1.cell? ⟨X + 1 + 1, 1, none⟩ = some (.slice none 0 0) := cell_at HZ2.out
  have r2 : w1.cell? ⟨X + 1 + 1, 2, none⟩ = some (.slice none 0 0) := cell_at HZ2.out
  have r3 : w1.cell? ⟨X + 1 + 1, 3, none⟩ = some (.int .u32 0) := cell_at HZ2.out
  have f0 : w1.frozen? ⟨X + 1 + 1, 0, none⟩ = false := free_at HZ2.out
  have f1 : w1.frozen? ⟨X + 1 + 1, 1, none⟩ = false := free_at HZ2.out
  have f2 : w1.frozen? ⟨X + 1 + 1, 2, none⟩ = false := free_at HZ2.out
  have f3 : w1.frozen? ⟨X + 1 + 1, 3, none⟩ = false := free_at HZ2.out
  by_cases hbad : tag = 0 ∨ a.br < 0 ∨ 2 < a.br ∨ 0 < a.lock.height
  · have HZ := Lib.hid (hzz.trans (child_bad hbad))
    have hcase : tag = 0 ∨ (¬ tag = 0 ∧ a.br < 0) ∨ (¬ tag = 0 ∧ ¬ a.br < 0 ∧ 2 < a.br) ∨ (¬ tag = 0 ∧ ¬ a.br < 0 ∧ ¬ 2 < a.br ∧ 0 < a.lock.height) := by omega
    clear hbad hzz
    rcases hcase with h1 | ⟨h1, h2⟩ | ⟨h1, h2, h3⟩ | ⟨h1, h2, h3, h4⟩
    · subst h1
      go_wp2_with fail
      exact bodyPost_ret (v := .tuple #[.agg #[.int .u32 0, .slice none 0 0, .slice none 0 0, .int .u32 0], .int .i64 2]) (by simp [results, Try.results9, go_sem, r0, r1, r2, r3]) rfl (build_is HZ.out (tx_zero _ _) (set4_zero HB1.out hX2 _ _ _ _))
    · have ht2 : ((tag : Int) == 0) = false := by simpa using h1
      go_wp2_with fail
      exact bodyPost_ret (v := .tuple #[.agg #[.int .u32 0, .slice none 0 0, .slice none 0 0, .int .u32 0], .int .i64 2]) (by simp [results, Try.results9, go_sem, r0, r1, r2, r3]) rfl (build_is HZ.out (tx_zero _ _) (set4_zero HB1.out hX2 _ _ _ _))
    · have ht2 : ((tag : Int) == 0) = false := by simpa using h1
      go_wp2_with fail
      exact bodyPost_ret (v := .tuple #[.agg #[.int .u32 0, .slice none 0 0, .slice none 0 0, .int .u32 0], .int .i64 2]) (by simp [results, Try.results9, go_sem, r0, r1, r2, r3]) rfl (build_is HZ.out (tx_zero _ _) (set4_zero HB1.out hX2 _ _ _ _))
    · have ht2 : ((tag : Int) == 0) = false := by simpa using h1
      go_wp2_with fail
      exact bodyPost_ret (v := .tuple #[.agg #[.int .u32 0, .slice none 0 0, .slice none 0 0, .int .u32 0], .int .i64 2]) (by simp [results, Try.results9, go_sem, r0, r1, r2, r3]) rfl (build_is HZ.out (tx_zero _ _) (set4_zero HB1.out hX2 _ _ _ _))
  have ht2 : ((tag : Int) == 0) = false := by simpa using (show ¬ tag = 0 by omega)
  have hh0 : ¬ 0 < a.lock.height := by omega
  have hb1 : ¬ a.br < 0 := by omega
  have hb2 : ¬ 2 < a.br := by omega
  have HQ2 := Lib.hid (hzz.trans (if_neg hbad))
  clear hzz hbad
  have c2 : w1.cell? ⟨X, 2, none⟩ = some (.int .i64 a.val) := cell_at HZ0.out
  have d2 : w1.cell? ⟨X + 1, 2, none⟩ = some (.int .i64 cv) := cell_at HZ1.out
  have HA := Lib.hid (rsum2_any w1 a.val cv HVW.out hcv)
  have HAC := Lib.hid (add2_cases a.val cv)
  clear hcv
  obtain ⟨su, hsu⟩ : ∃ su, su = add2 a.val cv := ⟨_, rfl⟩
  rw [← hsu] at HA HAC HQ2
  obtain ⟨s1, s2⟩ := su
  have HSU := Lib.hid hsu
  clear hsu
  dsimp only at *
  go_wp2_with fail
  refine HA.out.mono ?_
  rintro e w2 ⟨rfl, hb⟩
  have hl3' : X + 1 + 1 < w2.heap.size := Nat.lt_of_lt_of_le hl3 hb.size
  have hN2' : N < w2.heap.size := Nat.lt_of_lt_of_le hN2 hb.size
  have HB2 := Lib.hid (HB1.out.trans (hb.mono HB1.out.size))
  have HN0 := Lib.hid ((hb.block N hN2).trans HN0.out)
  have HZ0 := Lib.hid ((hb.block X (by omega)).trans HZ0.out)
  have HZ1 := Lib.hid ((hb.block (X + 1) (by omega)).trans HZ1.out)
  have HZ2 := Lib.hid ((hb.block _ hl3).trans HZ2.out)
  clear c3 c6 c2 d2 n0 n1 n2 n3 r0 r1 r2 r3 f0 f1 f2 f3 hb HA HB1
  have n0 : w2.cell? ⟨N, 0, none⟩ = some (.int .u32 0) := cell_at HN0.out
  have n1 : w2.cell? ⟨N, 1, none⟩ = some (.slice none 0 0) := cell_at HN0.out
  have n2 : w2.cell? ⟨N, 2, none⟩ = some (.slice none 0 0) := cell_at HN0.out
  have n3 : w2.cell? ⟨N, 3, none⟩ = some (.int .u32 0) := cell_at HN0.out
  have r0 : w2.cell? ⟨X + 1 + 1, 0, none⟩ = some (.int .u32 0) := cell_at HZ2.out
  have r1 : w2.cell? ⟨X + 1 + 1, 1, none⟩ = some (.slice none 0 0) := cell_at HZ2.out
  have r2 : w2.cell? ⟨X + 1 + 1, 2, none⟩ = some (.slice none 0 0) := cell_at HZ2.out
  have r3 : w2.cell? ⟨X + 1 + 1, 3, none⟩ = some (.int .u32 0) := cell_at HZ2.out
  have f0 : w2.frozen? ⟨X + 1 + 1, 0, none⟩ = false := free_at HZ2.out
  have f1 : w2.frozen? ⟨X + 1 + 1, 1, none⟩ = false := free_at HZ2.out
  have f2 : w2.frozen? ⟨X + 1 + 1, 2, none⟩ = false := free_at HZ2.out
  have f3 : w2.frozen? ⟨X + 1 + 1, 3, none⟩ = false := free_at HZ2.out
  have HG := Lib.hid (rgood_any fee w2)
  by_cases hs2 : s2 = 0
  rotate_left
  · have HZ := Lib.hid (HQ2.out.trans (if_pos (.inl hs2)))
    have hne : (s2 == 0) = false := by simpa using hs2
    go_wp2_with fail
    refine HG.out.mono ?_
    rintro e w' ⟨rfl, rfl⟩
    go_wp2_with fail
    exact bodyPost_ret (v := .tuple #[.agg #[.int .u32 0, .slice none 0 0, .slice none 0 0, .int .u32 0], .int .i64 3]) (by simp [results, Try.results9, go_sem, r0, r1, r2, r3]) rfl (build_is HZ.out (tx_zero _ _) (set4_zero HB2.out hX2 _ _ _ _))
  have hs1 : s1 = a.val + cv ∧ goodA s1 = true := by
    rcases HAC.out with ⟨h, -, -, h4⟩ | h
    · cases h; exact ⟨rfl, h4⟩
    · cases h; exact absurd hs2 (by decide)
  obtain ⟨hs1, hs3⟩ := hs1
  have hs4 := (goodA_iff _).1 hs3
  subst hs2
  cases hg : goodA fee
  · rw [hg] at HG
    have HZ := Lib.hid (HQ2.out.trans (if_pos (.inr hg)))
    clear hg hs1
    go_wp2_with fail
    refine HG.out.mono ?_
    rintro e w' ⟨rfl, rfl⟩
    go_wp2_with fail
    exact bodyPost_ret (v := .tuple #[.agg #[.int .u32 0, .slice none 0 0, .slice none 0 0, .int .u32 0], .int .i64 3]) (by simp [results, Try.results9, go_sem, r0, r1, r2, r3]) rfl (build_is HZ.out (tx_zero _ _) (set4_zero HB2.out hX2 _ _ _ _))
  have hfe := (goodA_iff _).1 hg
  rw [hg] at HG
  have HQ3 := Lib.hid (HQ2.out.trans (if_neg (by rw [hg]; simp)))
  rw [← hs1] at HQ3
  have HS1 := Lib.hid hs1
  clear hg hs1 HQ2
  by_cases hlt : s1 < fee
  · have HZ := Lib.hid (HQ3.out.trans (if_pos hlt))
    go_wp2_with fail
    refine HG.out.mono ?_
    rintro e w' ⟨rfl, rfl⟩
    go_wp2_with fail
    exact bodyPost_ret (v := .tuple #[.agg #[.int .u32 0, .slice none 0 0, .slice none 0 0, .int .u32 0], .int .i64 12]) (by simp [results, Try.results9, go_sem, r0, r1, r2, r3]) rfl (build_is HZ.out (tx_zero _ _) (set4_zero HB2.out hX2 _ _ _ _))
  have HQ4 := Lib.hid (HQ3.out.trans (if_neg hlt))
  have e0 : w2.cell? ⟨X, 0, none⟩ = some (.string a.id) := cell_at HZ0.out
  have e1 : w2.cell? ⟨X, 1, none⟩ = some (.int .u32 a.idx) := cell_at HZ0.out
  go_wp2_with fail
  refine HG.out.mono ?_
  rintro e w' ⟨rfl, rfl⟩
  go_upto_region 11 with fail
  have hz := heap_alloc_new w2 (.cells #[.string a.id, .int .u32 a.idx, .int .u32 4294967293, .slice none 0 0] 81)
  have hal : Below w2.heap.size w2 (w2.alloc (.cells #[.string a.id, .int .u32 a.idx, .int .u32 4294967293, .slice none 0 0] 81)) := (Below.refl _ _).alloc (Nat.le_refl _) _
  obtain ⟨A, hA⟩ : ∃ q, q = w2.heap.size := ⟨_, rfl⟩
  rw [← hA] at hz ⊢
  generalize w2.alloc (.cells #[.string a.id, .int .u32 a.idx, .int .u32 4294967293, .slice none 0 0] 81) = w3 at *
  have hAX : X + 1 + 1 < A := by omega
  have hAN : N < A := by omega
  have HB3 := Lib.hid (HB2.out.trans (hal.mono HB2.out.size))
  have HZ0 := Lib.hid (stay HZ0.out hal)
  have HZ1 := Lib.hid (stay HZ1.out hal)
  have HZ2 := Lib.hid (stay HZ2.out hal)
  have HN0 := Lib.hid (stay HN0.out hal)
  have HA := Lib.hid hz
  have c5 : w3.cell? ⟨X, 5, none⟩ = some (.int .u16 a.lock.delay) := cell_at HZ0.out
  have a2 : w3.cell? ⟨A, 2, none⟩ = some (.int .u32 4294967293) := cell_at hz
  have b2 : w3.frozen? ⟨A, 2, none⟩ = false := free_at hz
  clear hal hz hA e0 e1 n0 n1 n2 n3 r0 r1 r2 r3 f0 f1 f2 f3 HB2 HG
  go_upto_if 69 with fail
  go_cut [] (fun wx => AB w3 A #[.string a.id, .int .u32 a.idx, .int .u32 (seqOf a.lock.delay), .slice none 0 0] 81 wx)
  case first =>
    by_cases hd : 0 < a.lock.delay
    · have HS := Lib.hid (show seqOf a.lock.delay = a.lock.delay from if_pos hd)
      go_wp2_with fail
      go_meet
      rw [HS.out]
      exact ⟨fun b hb => Below.heap_setCell _ _ _ _ hb, heap_setCell_at HA.out, (Below.refl _ _).setCell (p := ⟨A, 2, none⟩) (Nat.le_refl _) _⟩
    · have HS := Lib.hid (show seqOf a.lock.delay = 4294967293 from if_neg hd)
      go_wp2_with fail
      go_meet
      rw [HS.out]
      exact ⟨fun b hb => rfl, HA.out, Below.refl _ _⟩
  case rest =>
    rename World => w4
    obtain ⟨hO, hH, hbl⟩ := hcut
    have HB4 := Lib.hid (HB3.out.trans (hbl.mono (by omega)))
    have HZ0 := Lib.hid ((hO X (by omega)).trans HZ0.out)
    have HZ1 := Lib.hid ((hO (X + 1) (by omega)).trans HZ1.out)
    have HZ2 := Lib.hid ((hO (X + 1 + 1) (by omega)).trans HZ2.out)
    have HN0 := Lib.hid ((hO N (by omega)).trans HN0.out)
    have HA := Lib.hid hH
    obtain ⟨n, hn⟩ : ∃ n : Nat, a.br = n := ⟨a.br.toNat, by omega⟩
    have hn3 : n < 3 := by omega
    have HNB := Lib.hid (show a.br.toNat = n by omega)
    have c3 : w4.cell? ⟨X, 3, none⟩ = some (.int .i64 n) := by rw [cell_at HZ0.out, ← hn]; rfl
    have hAX2 : w.heap.size ≤ A := by omega
    have hA4 := lt_of HA.out
    clear hO hH hbl c5 a2 b2 HB3
    rw [hn]
    clear hn
    go_wp2_with fail
    refine (rsign_new n tag hn3 ht w4).mono ?_
    rintro e w5 ⟨v1, rfl, p1, rfl, hp1, g1, hb⟩
    have HB5 := Lib.hid (HB4.out.trans (hb.mono HB4.out.size))
    have HZ0 := Lib.hid (stay HZ0.out hb)
    have HZ1 := Lib.hid (stay HZ1.out hb)
    have HZ2 := Lib.hid (stay HZ2.out hb)
    have HN0 := Lib.hid (stay HN0.out hb)
    have HA := Lib.hid (stay HA.out hb)
    have HG1 := Lib.hid g1
    have a3 : w5.cell? ⟨A, 3, none⟩ = some (.slice none 0 0) := cell_at HA.out
    have b3 : w5.frozen? ⟨A, 3, none⟩ = false := free_at HA.out
    clear c3 g1 hb HB4
    go_upto_region 14 with fail
    have hA6 := heap_setCell_at (j := 3) (u := .slice (some ⟨p1, 0, none⟩) 1 1) HA.out
    have HZ0 := Lib.hid (stay_set (B := A) (j := 3) (u := .slice (some ⟨p1, 0, none⟩) 1 1) HZ0.out (by omega))
    have HZ1 := Lib.hid (stay_set (B := A) (j := 3) (u := .slice (some ⟨p1, 0, none⟩) 1 1) HZ1.out (by omega))
    have HZ2 := Lib.hid (stay_set (B := A) (j := 3) (u := .slice (some ⟨p1, 0, none⟩) 1 1) HZ2.out (by omega))
    have HN0 := Lib.hid (stay_set (B := A) (j := 3) (u := .slice (some ⟨p1, 0, none⟩) 1 1) HN0.out (by omega))
    have HG1 := Lib.hid (stay_set (B := A) (j := 3) (u := .slice (some ⟨p1, 0, none⟩) 1 1) HG1.out (by omega))
    have HB6 := Lib.hid (HB5.out.setCell (p := ⟨A, 3, none⟩) hAX2 (.slice (some ⟨p1, 0, none⟩) 1 1))
    generalize w5.setCell ⟨A, 3, none⟩ (.slice (some ⟨p1, 0, none⟩) 1 1) = w6 at *
    have HA := Lib.hid hA6
    have d0 : w6.cell? ⟨X + 1, 0, none⟩ = some (.string cid) := cell_at HZ1.out
    have d1 : w6.cell? ⟨X + 1, 1, none⟩ = some (.int .u32 ci) := cell_at HZ1.out
    clear hA6 a3 b3 HB5
    go_upto_region 15 with fail
    have hz := heap_alloc_new w6 (.cells #[.string cid, .int .u32 ci, .int .u32 4294967293, .slice none 0 0] 81)
    have hal : Below w6.heap.size w6 (w6.alloc (.cells #[.string cid, .int .u32 ci, .int .u32 4294967293, .slice none 0 0] 81)) := (Below.refl _ _).alloc (Nat.le_refl _) _
    obtain ⟨B, hB⟩ : ∃ q, q = w6.heap.size := ⟨_, rfl⟩
    rw [← hB] at hz ⊢
    generalize w6.alloc (.cells #[.string cid, .int .u32 ci, .int .u32 4294967293, .slice none 0 0] 81) = w7 at *
    have hp1A : A < p1 := by omega
    have hB6 := lt_of HG1.out
    have hBA : A < B := by omega
    have hBp : p1 < B := by omega
    have hBX2 : w.heap.size ≤ B := by omega
    have HB7 := Lib.hid (HB6.out.trans (hal.mono HB6.out.size))
    have HZ0 := Lib.hid (stay HZ0.out hal)
    have HZ2 := Lib.hid (stay HZ2.out hal)
    have HN0 := Lib.hid (stay HN0.out hal)
    have HA := Lib.hid (stay HA.out hal)
    have HG1 := Lib.hid (stay HG1.out hal)
    have HB := Lib.hid hz
    clear hal hz hB d0 d1 HB6 HZ1
    go_wp2_with fail
    refine (rsign_new 0 tag (by omega) ht w7).mono ?_
    rintro e w8 ⟨v2, rfl, p2, rfl, hp2, g2, hb⟩
    have HB8 := Lib.hid (HB7.out.trans (hb.mono HB7.out.size))
    have hB7 := lt_of HB.out
    have HZ0 := Lib.hid (stay HZ0.out hb)
    have HZ2 := Lib.hid (stay HZ2.out hb)
    have HN0 := Lib.hid (stay HN0.out hb)
    have HA := Lib.hid (stay HA.out hb)
    have HG1 := Lib.hid (stay HG1.out hb)
    have HB := Lib.hid (stay HB.out hb)
    have HG2 := Lib.hid g2
    have hp2B : B < p2 := by omega
    have a3 : w8.cell? ⟨B, 3, none⟩ = some (.slice none 0 0) := cell_at HB.out
    have b3 : w8.frozen? ⟨B, 3, none⟩ = false := free_at HB.out
    clear g2 hb HB7
    go_upto_region 16 with fail
    have hB9 := heap_setCell_at (j := 3) (u := .slice (some ⟨p2, 0, none⟩) 1 1) HB.out
    have HZ0 := Lib.hid (stay_set (B := B) (j := 3) (u := .slice (some ⟨p2, 0, none⟩) 1 1) HZ0.out (by omega))
    have HZ2 := Lib.hid (stay_set (B := B) (j := 3) (u := .slice (some ⟨p2, 0, none⟩) 1 1) HZ2.out (by omega))
    have HN0 := Lib.hid (stay_set (B := B) (j := 3) (u := .slice (some ⟨p2, 0, none⟩) 1 1) HN0.out (by omega))
    have HA := Lib.hid (stay_set (B := B) (j := 3) (u := .slice (some ⟨p2, 0, none⟩) 1 1) HA.out (by omega))
    have HG1 := Lib.hid (stay_set (B := B) (j := 3) (u := .slice (some ⟨p2, 0, none⟩) 1 1) HG1.out (by omega))
    have HG2 := Lib.hid (stay_set (B := B) (j := 3) (u := .slice (some ⟨p2, 0, none⟩) 1 1) HG2.out (by omega))
    have HB9 := Lib.hid (HB8.out.setCell (p := ⟨B, 3, none⟩) hBX2 (.slice (some ⟨p2, 0, none⟩) 1 1))
    generalize w8.setCell ⟨B, 3, none⟩ (.slice (some ⟨p2, 0, none⟩) 1 1) = w9 at *
    have HB := Lib.hid hB9
    clear hB9 a3 b3 HB8
    go_wp2_with fail
    refine (rscript_any tag ht w9).mono ?_
    rintro e w10 ⟨rfl, hb⟩
    have HB10 := Lib.hid (HB9.out.trans (hb.mono HB9.out.size))
    have HZ0 := Lib.hid (stay HZ0.out hb)
    have HZ2 := Lib.hid (stay HZ2.out hb)
    have HN0 := Lib.hid (stay HN0.out hb)
    have HA := Lib.hid (stay HA.out hb)
    have HG1 := Lib.hid (stay HG1.out hb)
    have HB := Lib.hid (stay HB.out hb)
    have HG2 := Lib.hid (stay HG2.out hb)
    have a0 : w10.cell? ⟨A, 0, none⟩ = some (.string a.id) := cell_at HA.out
    have a1 : w10.cell? ⟨A, 1, none⟩ = some (.int .u32 a.idx) := cell_at HA.out
    have a2 : w10.cell? ⟨A, 2, none⟩ = some (.int .u32 (seqOf a.lock.delay)) := cell_at HA.out
    have a3 : w10.cell? ⟨A, 3, none⟩ = some (.slice (some ⟨p1, 0, none⟩) 1 1) := cell_at HA.out
    have b0 : w10.cell? ⟨B, 0, none⟩ = some (.string cid) := cell_at HB.out
    have b1 : w10.cell? ⟨B, 1, none⟩ = some (.int .u32 ci) := cell_at HB.out
    have b2 : w10.cell? ⟨B, 2, none⟩ = some (.int .u32 4294967293) := cell_at HB.out
    have b3 : w10.cell? ⟨B, 3, none⟩ = some (.slice (some ⟨p2, 0, none⟩) 1 1) := cell_at HB.out
    clear hb HB9
    go_upto_region 18 with fail
    obtain ⟨V, hV⟩ : ∃ V, V = s1 - fee := ⟨_, rfl⟩
    rw [← hV] at HQ4 ⊢
    have hV2 : 0 ≤ V ∧ V ≤ 2100000000000000 := by omega
    clear hV
    obtain ⟨R, hR⟩ : ∃ q, q = w10.heap.size := ⟨_, rfl⟩
    have hnews := new3 w10 R hR (.cells #[.string a.id, .int .u32 a.idx, .int .u32 (seqOf a.lock.delay), .slice (some ⟨p1, 0, none⟩) 1 1, .string cid, .int .u32 ci, .int .u32 4294967293, .slice (some ⟨p2, 0, none⟩) 1 1] 81) (.cells #[.int .i64 V, .string (scrT tag)] 37) (.cells #[.int .u32 2, .slice (some ⟨R, 0, none⟩) 2 2, .slice (some ⟨R + 1, 0, none⟩) 1 1, .int .u32 0] 43)
    rw [← hR]
    generalize (((w10.alloc (.cells #[.string a.id, .int .u32 a.idx, .int .u32 (seqOf a.lock.delay), .slice (some ⟨p1, 0, none⟩) 1 1, .string cid, .int .u32 ci, .int .u32 4294967293, .slice (some ⟨p2, 0, none⟩) 1 1] 81)).alloc (.cells #[.int .i64 V, .string (scrT tag)] 37)).alloc (.cells #[.int .u32 2, .slice (some ⟨R, 0, none⟩) 2 2, .slice (some ⟨R + 1, 0, none⟩) 1 1, .int .u32 0] 43)) = w11 at *
    obtain ⟨hz0, hz1, hz2, hal⟩ := hnews
    have hl11 := lt_of HG2.out
    have HB11 := Lib.hid (HB10.out.trans (hal.mono HB10.out.size))
    have HZ2 := Lib.hid (stay HZ2.out hal)
    have HN0 := Lib.hid (stay HN0.out hal)
    have HG1 := Lib.hid (stay HG1.out hal)
    have HG2 := Lib.hid (stay HG2.out hal)
    have HTX := Lib.hid (child_new (base := A) (v := V) (tag := tag) HOK.out hc hci (by omega) hz0 hz1 (by rw [HNB.out]; exact HG1.out) HG2.out ⟨by omega, by omega, by omega, by omega⟩)
    have HR2 := Lib.hid hz2
    unfold txV at HTX
    clear hal hz0 hz1 hz2 hR a0 a1 a2 a3 b0 b1 b2 b3 HB10 HZ0 HA HB HG1 HG2
    have HF := Lib.hid (rfirst_any _ _ w11 HTX.out.at)
    rw [show firstD (childTx a cid ci tag V).outs 0 = if V < 255 then 0 else -1 from first_child V tag] at HF
    have t0 : w11.cell? ⟨R + 1 + 1, 0, none⟩ = some (.int .u32 2) := cell_at HR2.out
    have t1 : w11.cell? ⟨R + 1 + 1, 1, none⟩ = some (.slice (some ⟨R, 0, none⟩) 2 2) := cell_at HR2.out
    have t2 : w11.cell? ⟨R + 1 + 1, 2, none⟩ = some (.slice (some ⟨R + 1, 0, none⟩) 1 1) := cell_at HR2.out
    have t3 : w11.cell? ⟨R + 1 + 1, 3, none⟩ = some (.int .u32 0) := cell_at HR2.out
    by_cases hd : V < 255
    · have HZ := Lib.hid (HQ4.out.trans (if_pos hd))
      rw [if_pos hd] at HF
      go_wp2_with fail
      refine HF.out.mono ?_
      rintro e w12 ⟨rfl, hb⟩
      have HB12 := Lib.hid (HB11.out.trans (hb.mono HB11.out.size))
      have HZ2 := Lib.hid (stay HZ2.out hb)
      have HN0 := Lib.hid (stay HN0.out hb)
      have n0 : w12.cell? ⟨N, 0, none⟩ = some (.int .u32 0) := cell_at HN0.out
      have n1 : w12.cell? ⟨N, 1, none⟩ = some (.slice none 0 0) := cell_at HN0.out
      have n2 : w12.cell? ⟨N, 2, none⟩ = some (.slice none 0 0) := cell_at HN0.out
      have n3 : w12.cell? ⟨N, 3, none⟩ = some (.int .u32 0) := cell_at HN0.out
      have r0 : w12.cell? ⟨X + 1 + 1, 0, none⟩ = some (.int .u32 0) := cell_at HZ2.out
      have r1 : w12.cell? ⟨X + 1 + 1, 1, none⟩ = some (.slice none 0 0) := cell_at HZ2.out
      have r2 : w12.cell? ⟨X + 1 + 1, 2, none⟩ = some (.slice none 0 0) := cell_at HZ2.out
      have r3 : w12.cell? ⟨X + 1 + 1, 3, none⟩ = some (.int .u32 0) := cell_at HZ2.out
      have f0 : w12.frozen? ⟨X + 1 + 1, 0, none⟩ = false := free_at HZ2.out
      have f1 : w12.frozen? ⟨X + 1 + 1, 1, none⟩ = false := free_at HZ2.out
      have f2 : w12.frozen? ⟨X + 1 + 1, 2, none⟩ = false := free_at HZ2.out
      have f3 : w12.frozen? ⟨X + 1 + 1, 3, none⟩ = false := free_at HZ2.out
      clear hb t0 t1 t2 t3
      go_wp2_with fail
      exact bodyPost_ret (v := .tuple #[.agg #[.int .u32 0, .slice none 0 0, .slice none 0 0, .int .u32 0], .int .i64 13]) (by simp [results, Try.results9, go_sem, r0, r1, r2, r3]) rfl (build_is HZ.out (tx_zero _ _) (set4_zero HB12.out hX2 _ _ _ _))
    have HQ5 := Lib.hid (HQ4.out.trans (if_neg hd))
    rw [if_neg hd] at HF
    go_wp2_with fail
    refine HF.out.mono ?_
    rintro e w12 ⟨rfl, hb⟩
    have HB12 := Lib.hid (HB11.out.trans (hb.mono HB11.out.size))
    have HZ2 := Lib.hid (stay HZ2.out hb)
    have HN0 := Lib.hid (stay HN0.out hb)
    have HR2 := Lib.hid (stay HR2.out hb)
    have HTX := Lib.hid (HTX.out.below hb)
    clear hb t0 t1 t2 t3 HF HB11
    have t0 : w12.cell? ⟨R + 1 + 1, 0, none⟩ = some (.int .u32 2) := cell_at HR2.out
    have t1 : w12.cell? ⟨R + 1 + 1, 1, none⟩ = some (.slice (some ⟨R, 0, none⟩) 2 2) := cell_at HR2.out
    have t2 : w12.cell? ⟨R + 1 + 1, 2, none⟩ = some (.slice (some ⟨R + 1, 0, none⟩) 1 1) := cell_at HR2.out
    have t3 : w12.cell? ⟨R + 1 + 1, 3, none⟩ = some (.int .u32 0) := cell_at HR2.out
    have HCK := Lib.hid (rcheck_any _ _ w12 HTX.out.at (by show 1 ≤ 1000; decide))
    obtain ⟨ck, hck⟩ : ∃ ck, ck = checkOf (childTx a cid ci tag V) := ⟨_, rfl⟩
    rw [← hck] at HCK HQ5
    go_wp2_with fail
    refine HCK.out.mono ?_
    rintro e w13 ⟨rfl, hb⟩
    have hl13 := lt_of HZ2.out
    have HB13 := Lib.hid (HB12.out.trans (hb.mono HB12.out.size))
    have HZ2 := Lib.hid (stay HZ2.out hb)
    have HN0 := Lib.hid (stay HN0.out hb)
    have HR2 := Lib.hid (stay HR2.out hb)
    have HTX := Lib.hid (HTX.out.below hb)
    clear hb t0 t1 t2 t3 HCK hck HB12
    have t0 : w13.cell? ⟨R + 1 + 1, 0, none⟩ = some (.int .u32 2) := cell_at HR2.out
    have t1 : w13.cell? ⟨R + 1 + 1, 1, none⟩ = some (.slice (some ⟨R, 0, none⟩) 2 2) := cell_at HR2.out
    have t2 : w13.cell? ⟨R + 1 + 1, 2, none⟩ = some (.slice (some ⟨R + 1, 0, none⟩) 1 1) := cell_at HR2.out
    have t3 : w13.cell? ⟨R + 1 + 1, 3, none⟩ = some (.int .u32 0) := cell_at HR2.out
    have n0 : w13.cell? ⟨N, 0, none⟩ = some (.int .u32 0) := cell_at HN0.out
    have n1 : w13.cell? ⟨N, 1, none⟩ = some (.slice none 0 0) := cell_at HN0.out
    have n2 : w13.cell? ⟨N, 2, none⟩ = some (.slice none 0 0) := cell_at HN0.out
    have n3 : w13.cell? ⟨N, 3, none⟩ = some (.int .u32 0) := cell_at HN0.out
    have r0 : w13.cell? ⟨X + 1 + 1, 0, none⟩ = some (.int .u32 0) := cell_at HZ2.out
    have r1 : w13.cell? ⟨X + 1 + 1, 1, none⟩ = some (.slice none 0 0) := cell_at HZ2.out
    have r2 : w13.cell? ⟨X + 1 + 1, 2, none⟩ = some (.slice none 0 0) := cell_at HZ2.out
    have r3 : w13.cell? ⟨X + 1 + 1, 3, none⟩ = some (.int .u32 0) := cell_at HZ2.out
    have f0 : w13.frozen? ⟨X + 1 + 1, 0, none⟩ = false := free_at HZ2.out
    have f1 : w13.frozen? ⟨X + 1 + 1, 1, none⟩ = false := free_at HZ2.out
    have f2 : w13.frozen? ⟨X + 1 + 1, 2, none⟩ = false := free_at HZ2.out
    have f3 : w13.frozen? ⟨X + 1 + 1, 3, none⟩ = false := free_at HZ2.out
    by_cases hc0 : ck = 0
    · subst hc0
      have HZ := Lib.hid (HQ5.out.trans (if_neg (by simp)))
      go_wp2_with fail
      exact bodyPost_ret (v := .tuple #[.agg #[.int .u32 2, .slice (some ⟨R, 0, none⟩) 2 2, .slice (some ⟨R + 1, 0, none⟩) 1 1, .int .u32 0], .int .i64 0]) (by simp [results, Try.results9, go_sem, r0, r1, r2, r3]) rfl (build_is HZ.out (((((HTX.out.store _ _ hAX).store _ _ hAX).store _ _ hAX).store _ _ hAX).low hAX2) (set4_zero HB13.out hX2 _ _ _ _))
    · have HZ := Lib.hid (HQ5.out.trans (if_pos hc0))
      have hne : (ck == 0) = false := by simpa using hc0
      go_wp2_with fail
      exact bodyPost_ret (v := .tuple #[.agg #[.int .u32 0, .slice none 0 0, .slice none 0 0, .int .u32 0], .int .i64 ck]) (by simp [results, Try.results9, go_sem, r0, r1, r2, r3]) rfl (build_is HZ.out (tx_zero _ _) (set4_zero HB13.out hX2 _ _ _ _))
end Go.Proofs.Ytmakghcoehkphaa
end

section
/-
  The law's own inputs: an anchor and a point of a Raw. Conditions: the numbers are ones of their kinds.
-/
namespace Go.Proofs.Ytmakghcoehkphaa
open Go.RowKit Go.BigFrame
set_option linter.unusedVariables false
set_option linter.unusedSimpArgs false

theorem cap_ex (s : ByteArray) (m : Nat) (h : m = min s.size 40) : s.extract 0 m = capB 40 s := by
  unfold capB
  split
  · rw [h, show min s.size 40 = 40 by omega]
  · rw [h, show min s.size 40 = s.size by omega]
    apply ByteArray.ext
    simp
structure PRaw where
  a : PCl
  pid : ByteArray
  pidx : Nat
  val : Int
  tag : Nat
  fee : Int
  odd : Bool
structure PRaw.Ok (z : PRaw) : Prop where
  a : z.a.Ok
  pid : z.pid.size ≤ maxLen
  pidx : z.pidx < 4294967296
  val : -9223372036854775808 ≤ z.val ∧ z.val ≤ 9223372036854775807
  tag : z.tag < 65536
  fee : -9223372036854775808 ≤ z.fee ∧ z.fee ≤ 9223372036854775807
def rawCells (z : PRaw) : Array Value := #[.string z.a.id, .int .u32 z.a.idx, .int .i64 z.a.val, .int .i64 z.a.br, .int .u16 z.a.lock.tag, .int .u16 z.a.lock.delay, .int .u32 z.a.lock.height, .int .i64 z.a.dead, .string z.pid, .int .u32 z.pidx, .int .i64 z.val, .int .u16 z.tag, .int .i64 z.fee, .bool z.odd]
def ofA (z : PRaw) : PCl := ⟨if z.odd then capB 40 z.a.id else idB 1, z.a.idx, z.a.val, z.a.br, z.a.lock, z.a.dead⟩
def ofP (z : PRaw) : ByteArray := if z.odd then capB 40 z.pid else idB 2
theorem capB_len {n : Nat} {s : ByteArray} (h : s.size ≤ maxLen) : (capB n s).size ≤ maxLen := by
  unfold capB
  split
  · simp only [ByteArray.size_extract]; omega
  · exact h
theorem ofA_len {z : PRaw} (h : z.Ok) : (ofA z).id.size ≤ maxLen := by
  unfold ofA
  dsimp only
  split
  · exact capB_len h.a.id
  · rw [idB_size]; decide
theorem ofP_len {z : PRaw} (h : z.Ok) : (ofP z).size ≤ maxLen := by
  unfold ofP
  split
  · exact capB_len h.pid
  · rw [idB_size]; decide
def RO (X : Nat) (z : PRaw) : Nat → Fact
  | 0 => .val fun _ => .pointer (some ⟨X, 0, none⟩)
  | 1 => .val fun _ => clV z.a
  | 2 => .val fun _ => .pointer (some ⟨X, 8, none⟩)
  | 3 => .val fun _ => .agg #[.string z.pid, .int .u32 z.pidx]
  | 4 => .box fun _ => .cells #[.string ⟨#[]⟩, .int .u32 0, .int .i64 0, .int .i64 0, .int .u16 0, .int .u16 0, .int .u32 0, .int .i64 0] 29 (0, 0)
  | 5 => .box fun _ => .cells #[.string ⟨#[]⟩, .int .u32 0] 24 (0, 0)
  | _ => .any
theorem set_two {w w1 : World} {P Y : Nat} {a y : Value} {xs ys : List Value} {t u : TypeId} (gP : w1.heap[P]? = some (.cells (a :: xs).toArray t (0, 0))) (gY : w1.heap[Y]? = some (.cells (y :: ys).toArray u (0, 0))) (hne : P ≠ Y) (hb : Below w.heap.size w w1) (hP : w.heap.size ≤ P) (hY : w.heap.size ≤ Y) (a' y' : Value) :
    Below w.heap.size w ((w1.setCell ⟨P, 0, none⟩ a').setCell ⟨Y, 0, none⟩ y') ∧ (∀ b, b ≠ P → b ≠ Y → ((w1.setCell ⟨P, 0, none⟩ a').setCell ⟨Y, 0, none⟩ y').heap[b]? = w1.heap[b]?) ∧
      ((w1.setCell ⟨P, 0, none⟩ a').setCell ⟨Y, 0, none⟩ y').heap[P]? = some (.cells (a' :: xs).toArray t (0, 0)) ∧ ((w1.setCell ⟨P, 0, none⟩ a').setCell ⟨Y, 0, none⟩ y').heap[Y]? = some (.cells (y' :: ys).toArray u (0, 0)) := by
  have h1 := heap_setCell_at (j := 0) (u := a') gP
  have h2 : (w1.setCell ⟨P, 0, none⟩ a').heap[Y]? = _ := (Below.heap_setCell _ _ _ _ (Ne.symm hne)).trans gY
  have h3 := heap_setCell_at (j := 0) (u := y') h2
  refine ⟨(hb.setCell (p := ⟨P, 0, none⟩) hP a').setCell (p := ⟨Y, 0, none⟩) hY y', fun b b1 b2 => ?_, ?_, ?_⟩
  · rw [Below.heap_setCell _ _ _ _ b2, Below.heap_setCell _ _ _ _ b1]
  · rw [Below.heap_setCell _ _ _ _ hne, h1]; simp
  · rw [h3]; simp
set_option maxRecDepth 100000 in
set_option maxHeartbeats 4000000 in
theorem of_any (z : PRaw) (w : World) : Calls Try.prog 7 #[.agg (rawCells z)] w fun e w' => e = .returned (.tuple #[clV (ofA z), .agg #[.string (ofP z), .int .u32 z.pidx]]) ∧ Below w.heap.size w w' := by
  obtain ⟨od, hod⟩ : ∃ b, b = z.odd := ⟨_, rfl⟩
  have HOD := Lib.hid hod
  unfold rawCells
  rw [← hod]
  clear hod
  go_enter Try.func7, Try.ntmps7
  go_upto_region 1 with fail
  obtain ⟨X, hX⟩ : ∃ q, q = w.heap.size := ⟨_, rfl⟩
  have hnews := new3 w X hX (.cells #[.string z.a.id, .int .u32 z.a.idx, .int .i64 z.a.val, .int .i64 z.a.br, .int .u16 z.a.lock.tag, .int .u16 z.a.lock.delay, .int .u32 z.a.lock.height, .int .i64 z.a.dead, .string z.pid, .int .u32 z.pidx, .int .i64 z.val, .int .u16 z.tag, .int .i64 z.fee, .bool od] 31) (.cells #[.string ⟨#[]⟩, .int .u32 0, .int .i64 0, .int .i64 0, .int .u16 0, .int .u16 0, .int .u32 0, .int .i64 0] 29) (.cells #[.string ⟨#[]⟩, .int .u32 0] 24)
  rw [← hX]
  generalize (((w.alloc (.cells #[.string z.a.id, .int .u32 z.a.idx, .int .i64 z.a.val, .int .i64 z.a.br, .int .u16 z.a.lock.tag, .int .u16 z.a.lock.delay, .int .u32 z.a.lock.height, .int .i64 z.a.dead, .string z.pid, .int .u32 z.pidx, .int .i64 z.val, .int .u16 z.tag, .int .i64 z.fee, .bool od] 31)).alloc (.cells #[.string ⟨#[]⟩, .int .u32 0, .int .i64 0, .int .i64 0, .int .u16 0, .int .u16 0, .int .u32 0, .int .i64 0] 29)).alloc (.cells #[.string ⟨#[]⟩, .int .u32 0] 24)) = w0 at *
  obtain ⟨hz0, hz1, hz2, hal⟩ := hnews
  have hX1 : w.heap.size ≤ X := by omega
  have HB0 := Lib.hid hal
  have HZ0 := Lib.hid hz0
  have HZ1 := Lib.hid hz1
  have HZ2 := Lib.hid hz2
  have hl2 := lt_of hz2
  have z0 : w0.cell? ⟨X, 0, none⟩ = some (.string z.a.id) := cell_at hz0
  have z1 : w0.cell? ⟨X, 1, none⟩ = some (.int .u32 z.a.idx) := cell_at hz0
  have z2 : w0.cell? ⟨X, 2, none⟩ = some (.int .i64 z.a.val) := cell_at hz0
  have z3 : w0.cell? ⟨X, 3, none⟩ = some (.int .i64 z.a.br) := cell_at hz0
  have z4 : w0.cell? ⟨X, 4, none⟩ = some (.int .u16 z.a.lock.tag) := cell_at hz0
  have z5 : w0.cell? ⟨X, 5, none⟩ = some (.int .u16 z.a.lock.delay) := cell_at hz0
  have z6 : w0.cell? ⟨X, 6, none⟩ = some (.int .u32 z.a.lock.height) := cell_at hz0
  have z7 : w0.cell? ⟨X, 7, none⟩ = some (.int .i64 z.a.dead) := cell_at hz0
  have z8 : w0.cell? ⟨X, 8, none⟩ = some (.string z.pid) := cell_at hz0
  have z9 : w0.cell? ⟨X, 9, none⟩ = some (.int .u32 z.pidx) := cell_at hz0
  clear hz0 hz1 hz2 hal hX
  go_cut [4, 5] (fun s4 s5 wx => ∃ P Y, s4 = .pointer (some ⟨P, 0, none⟩) ∧ s5 = .pointer (some ⟨Y, 0, none⟩) ∧ X + 1 + 1 < P ∧ X + 1 + 1 < Y ∧ P ≠ Y ∧ Below w0.heap.size w0 wx ∧ wx.heap[P]? = some (.cells #[.string z.a.id, .int .u32 z.a.idx, .int .i64 z.a.val, .int .i64 z.a.br, .int .u16 z.a.lock.tag, .int .u16 z.a.lock.delay, .int .u32 z.a.lock.height, .int .i64 z.a.dead] 29 (0, 0)) ∧ wx.heap[Y]? = some (.cells #[.string z.pid, .int .u32 z.pidx] 24 (0, 0)))
  case first =>
    have k0 : ∀ o, (w0.alloc o).cell? ⟨X, 0, none⟩ = some (.string z.a.id) := fun o => cell_over z0 o
    have j0 : ∀ o o', ((w0.alloc o).alloc o').cell? ⟨X, 0, none⟩ = some (.string z.a.id) := fun o o' => cell_over (k0 o) o'
    have k1 : ∀ o, (w0.alloc o).cell? ⟨X, 1, none⟩ = some (.int .u32 z.a.idx) := fun o => cell_over z1 o
    have j1 : ∀ o o', ((w0.alloc o).alloc o').cell? ⟨X, 1, none⟩ = some (.int .u32 z.a.idx) := fun o o' => cell_over (k1 o) o'
    have k2 : ∀ o, (w0.alloc o).cell? ⟨X, 2, none⟩ = some (.int .i64 z.a.val) := fun o => cell_over z2 o
    have j2 : ∀ o o', ((w0.alloc o).alloc o').cell? ⟨X, 2, none⟩ = some (.int .i64 z.a.val) := fun o o' => cell_over (k2 o) o'
    have k3 : ∀ o, (w0.alloc o).cell? ⟨X, 3, none⟩ = some (.int .i64 z.a.br) := fun o => cell_over z3 o
    have j3 : ∀ o o', ((w0.alloc o).alloc o').cell? ⟨X, 3, none⟩ = some (.int .i64 z.a.br) := fun o o' => cell_over (k3 o) o'
    have k4 : ∀ o, (w0.alloc o).cell? ⟨X, 4, none⟩ = some (.int .u16 z.a.lock.tag) := fun o => cell_over z4 o
    have j4 : ∀ o o', ((w0.alloc o).alloc o').cell? ⟨X, 4, none⟩ = some (.int .u16 z.a.lock.tag) := fun o o' => cell_over (k4 o) o'
    have k5 : ∀ o, (w0.alloc o).cell? ⟨X, 5, none⟩ = some (.int .u16 z.a.lock.delay) := fun o => cell_over z5 o
    have j5 : ∀ o o', ((w0.alloc o).alloc o').cell? ⟨X, 5, none⟩ = some (.int .u16 z.a.lock.delay) := fun o o' => cell_over (k5 o) o'
    have k6 : ∀ o, (w0.alloc o).cell? ⟨X, 6, none⟩ = some (.int .u32 z.a.lock.height) := fun o => cell_over z6 o
    have j6 : ∀ o o', ((w0.alloc o).alloc o').cell? ⟨X, 6, none⟩ = some (.int .u32 z.a.lock.height) := fun o o' => cell_over (k6 o) o'
    have k7 : ∀ o, (w0.alloc o).cell? ⟨X, 7, none⟩ = some (.int .i64 z.a.dead) := fun o => cell_over z7 o
    have j7 : ∀ o o', ((w0.alloc o).alloc o').cell? ⟨X, 7, none⟩ = some (.int .i64 z.a.dead) := fun o o' => cell_over (k7 o) o'
    have k8 : ∀ o, (w0.alloc o).cell? ⟨X, 8, none⟩ = some (.string z.pid) := fun o => cell_over z8 o
    have j8 : ∀ o o', ((w0.alloc o).alloc o').cell? ⟨X, 8, none⟩ = some (.string z.pid) := fun o o' => cell_over (k8 o) o'
    have k9 : ∀ o, (w0.alloc o).cell? ⟨X, 9, none⟩ = some (.int .u32 z.pidx) := fun o => cell_over z9 o
    have j9 : ∀ o o', ((w0.alloc o).alloc o').cell? ⟨X, 9, none⟩ = some (.int .u32 z.pidx) := fun o o' => cell_over (k9 o) o'
    go_region
    · go_wp2_with fail
      go_meet
      obtain ⟨n1, n2, n3⟩ := new2 w0 _ rfl (.cells #[.string z.a.id, .int .u32 z.a.idx, .int .i64 z.a.val, .int .i64 z.a.br, .int .u16 z.a.lock.tag, .int .u16 z.a.lock.delay, .int .u32 z.a.lock.height, .int .i64 z.a.dead] 29) (.cells #[.string z.pid, .int .u32 z.pidx] 24)
      exact ⟨_, _, rfl, rfl, by omega, by omega, by omega, n3.drew, n1, n2⟩
    · go_wp2_with fail
      go_meet
      obtain ⟨n1, n2, n3⟩ := new2 w0 _ rfl (.cells #[.string z.pid, .int .u32 z.pidx] 24) (.cells #[.string z.a.id, .int .u32 z.a.idx, .int .i64 z.a.val, .int .i64 z.a.br, .int .u16 z.a.lock.tag, .int .u16 z.a.lock.delay, .int .u32 z.a.lock.height, .int .i64 z.a.dead] 29)
      exact ⟨_, _, rfl, rfl, by omega, by omega, by omega, n3.drew, n2, n1⟩
  case rest =>
    rename World => w1
    obtain ⟨P, Y, rfl, rfl, hP, hY, hPY, hbel, gP, gY⟩ := hcut
    have HB1 := Lib.hid (HB0.out.trans (hbel.mono HB0.out.size))
    have HZ0 := Lib.hid (stay HZ0.out hbel)
    have HZ1 := Lib.hid (stay HZ1.out hbel)
    have HZ2 := Lib.hid (stay HZ2.out hbel)
    have p0 : w1.cell? ⟨P, 0, none⟩ = some (.string z.a.id) := cell_at gP
    have y0 : w1.cell? ⟨Y, 0, none⟩ = some (.string z.pid) := cell_at gY
    have fp0 : w1.frozen? ⟨P, 0, none⟩ = false := free_at gP
    have fy0 : w1.frozen? ⟨Y, 0, none⟩ = false := free_at gY
    have HGP := Lib.hid gP
    have HGY := Lib.hid gY
    obtain ⟨m1, hm1⟩ : ∃ m, m = min z.a.id.size 40 := ⟨_, rfl⟩
    have hi1 : min (z.a.id.size : Int) 40 = (m1 : Int) := by omega
    have hle1 : m1 ≤ z.a.id.size := by omega
    obtain ⟨m2, hm2⟩ : ∃ m, m = min z.pid.size 40 := ⟨_, rfl⟩
    have hi2 : min (z.pid.size : Int) 40 = (m2 : Int) := by omega
    have hle2 : m2 ≤ z.pid.size := by omega
    have HM1 := Lib.hid (cap_ex _ _ hm1)
    have HM2 := Lib.hid (cap_ex _ _ hm2)
    clear hm1 hm2 gP gY hbel HB0 z0 z1 z2 z3 z4 z5 z6 z7 z8 z9
    go_upto_region 2 with fail
    go_cut [] (fun wx => Below w.heap.size w wx ∧ (∀ b, b ≠ P → b ≠ Y → wx.heap[b]? = w1.heap[b]?) ∧ wx.heap[P]? = some (.cells #[.string (capB 40 z.a.id), .int .u32 z.a.idx, .int .i64 z.a.val, .int .i64 z.a.br, .int .u16 z.a.lock.tag, .int .u16 z.a.lock.delay, .int .u32 z.a.lock.height, .int .i64 z.a.dead] 29 (0, 0)) ∧ wx.heap[Y]? = some (.cells #[.string (capB 40 z.pid), .int .u32 z.pidx] 24 (0, 0)))
    case first =>
      go_region
      go_wp2_with fail
      go_meet
      rw [HM1.out, HM2.out]
      have h2 := set_two HGP.out HGY.out hPY HB1.out (by omega) (by omega) (.string (capB 40 z.a.id)) (.string (capB 40 z.pid))
      exact ⟨h2.1.drew, h2.2.1, h2.2.2.1, h2.2.2.2⟩
    case rest =>
      rename World => w2
      obtain ⟨hB2, hO, gP, gY⟩ := hcut
      have HB2 := Lib.hid hB2
      have HZ0 := Lib.hid ((hO X (by omega) (by omega)).trans HZ0.out)
      have HZ1 := Lib.hid ((hO (X + 1) (by omega) (by omega)).trans HZ1.out)
      have HZ2 := Lib.hid ((hO (X + 1 + 1) (by omega) (by omega)).trans HZ2.out)
      have c13 : w2.cell? ⟨X, 13, none⟩ = some (.bool od) := cell_at HZ0.out
      have HGP := Lib.hid gP
      have HGY := Lib.hid gY
      have hlP := lt_of gP
      have hlY := lt_of gY
      have hlX := lt_of HZ2.out
      clear hB2 hO gP gY p0 y0 fp0 fy0 HM1 HM2 hi1 hi2 hle1 hle2 HB1
      go_upto_if 31 with fail
      go_cut [] (fun wx => Below w.heap.size w wx ∧ (∀ b, b < w2.heap.size → b ≠ P → b ≠ Y → wx.heap[b]? = w2.heap[b]?) ∧ wx.heap[P]? = some (.cells #[.string ((ofA z).id), .int .u32 z.a.idx, .int .i64 z.a.val, .int .i64 z.a.br, .int .u16 z.a.lock.tag, .int .u16 z.a.lock.delay, .int .u32 z.a.lock.height, .int .i64 z.a.dead] 29 (0, 0)) ∧ wx.heap[Y]? = some (.cells #[.string (ofP z), .int .u32 z.pidx] 24 (0, 0)))
      case first =>
        cases od
        · have HI := Lib.hid (show (ofA z).id = idB 1 by unfold ofA; rw [← HOD.out]; rfl)
          have HJ := Lib.hid (show ofP z = idB 2 by unfold ofP; rw [← HOD.out]; rfl)
          go_wp2_with fail
          refine (id_any 1 w2).mono ?_
          rintro e w3 ⟨rfl, hb⟩
          have HB3 := Lib.hid hb
          clear hb c13
          go_wp2_with fail
          refine (id_any 2 w3).mono ?_
          rintro e w4 ⟨rfl, hb⟩
          have hb4 := HB3.out.trans (hb.mono HB3.out.size)
          have HB4 := Lib.hid hb4
          have g4 := stay HGP.out hb4
          have g5 := stay HGY.out hb4
          have HGP4 := Lib.hid g4
          have HGY4 := Lib.hid g5
          have p0 : w4.cell? ⟨P, 0, none⟩ = some (.string (capB 40 z.a.id)) := cell_at g4
          have y0 : w4.cell? ⟨Y, 0, none⟩ = some (.string (capB 40 z.pid)) := cell_at g5
          have fp0 : w4.frozen? ⟨P, 0, none⟩ = false := free_at g4
          have fy0 : w4.frozen? ⟨Y, 0, none⟩ = false := free_at g5
          clear hb hb4 g4 g5 HB3
          go_wp2_with fail
          go_meet
          rw [HI.out, HJ.out]
          have h2 := set_two HGP4.out HGY4.out hPY (HB2.out.trans (HB4.out.mono HB2.out.size)) (by omega) (by omega) (.string (idB 1)) (.string (idB 2))
          exact ⟨h2.1, fun b hb hP hY => (h2.2.1 b hP hY).trans (HB4.out.block b hb), h2.2.2.1, h2.2.2.2⟩
        · have HI := Lib.hid (show (ofA z).id = capB 40 z.a.id by unfold ofA; rw [← HOD.out]; rfl)
          have HJ := Lib.hid (show ofP z = capB 40 z.pid by unfold ofP; rw [← HOD.out]; rfl)
          go_wp2_with fail
          go_meet
          rw [HI.out, HJ.out]
          exact ⟨HB2.out, fun b _ _ _ => rfl, HGP.out, HGY.out⟩
      case rest =>
        rename World => w5
        obtain ⟨hB5, hO, gP, gY⟩ := hcut
        have HB5 := Lib.hid hB5
        have hr1 := (hO (X + 1) (by omega) (by omega) (by omega)).trans HZ1.out
        have hr2 := (hO (X + 1 + 1) (by omega) (by omega) (by omega)).trans HZ2.out
        have HR1 := Lib.hid hr1
        have HR2 := Lib.hid hr2
        obtain ⟨sa, hsa⟩ : ∃ s, s = (ofA z).id := ⟨_, rfl⟩
        obtain ⟨sp, hsp⟩ : ∃ s, s = ofP z := ⟨_, rfl⟩
        rw [← hsa] at gP
        rw [← hsp] at gY
        have HSA := Lib.hid hsa
        have HSP := Lib.hid hsp
        have p0 : w5.cell? ⟨P, 0, none⟩ = some (.string sa) := cell_at gP
        have p1 : w5.cell? ⟨P, 1, none⟩ = some (.int .u32 z.a.idx) := cell_at gP
        have p2 : w5.cell? ⟨P, 2, none⟩ = some (.int .i64 z.a.val) := cell_at gP
        have p3 : w5.cell? ⟨P, 3, none⟩ = some (.int .i64 z.a.br) := cell_at gP
        have p4 : w5.cell? ⟨P, 4, none⟩ = some (.int .u16 z.a.lock.tag) := cell_at gP
        have p5 : w5.cell? ⟨P, 5, none⟩ = some (.int .u16 z.a.lock.delay) := cell_at gP
        have p6 : w5.cell? ⟨P, 6, none⟩ = some (.int .u32 z.a.lock.height) := cell_at gP
        have p7 : w5.cell? ⟨P, 7, none⟩ = some (.int .i64 z.a.dead) := cell_at gP
        have y0 : w5.cell? ⟨Y, 0, none⟩ = some (.string sp) := cell_at gY
        have y1 : w5.cell? ⟨Y, 1, none⟩ = some (.int .u32 z.pidx) := cell_at gY
        have r0 : w5.cell? ⟨X + 1, 0, none⟩ = some (.string ⟨#[]⟩) := cell_at hr1
        have r1 : w5.cell? ⟨X + 1, 1, none⟩ = some (.int .u32 0) := cell_at hr1
        have r2 : w5.cell? ⟨X + 1, 2, none⟩ = some (.int .i64 0) := cell_at hr1
        have r3 : w5.cell? ⟨X + 1, 3, none⟩ = some (.int .i64 0) := cell_at hr1
        have r4 : w5.cell? ⟨X + 1, 4, none⟩ = some (.int .u16 0) := cell_at hr1
        have r5 : w5.cell? ⟨X + 1, 5, none⟩ = some (.int .u16 0) := cell_at hr1
        have r6 : w5.cell? ⟨X + 1, 6, none⟩ = some (.int .u32 0) := cell_at hr1
        have r7 : w5.cell? ⟨X + 1, 7, none⟩ = some (.int .i64 0) := cell_at hr1
        have f0 : w5.frozen? ⟨X + 1, 0, none⟩ = false := free_at hr1
        have f1 : w5.frozen? ⟨X + 1, 1, none⟩ = false := free_at hr1
        have f2 : w5.frozen? ⟨X + 1, 2, none⟩ = false := free_at hr1
        have f3 : w5.frozen? ⟨X + 1, 3, none⟩ = false := free_at hr1
        have f4 : w5.frozen? ⟨X + 1, 4, none⟩ = false := free_at hr1
        have f5 : w5.frozen? ⟨X + 1, 5, none⟩ = false := free_at hr1
        have f6 : w5.frozen? ⟨X + 1, 6, none⟩ = false := free_at hr1
        have f7 : w5.frozen? ⟨X + 1, 7, none⟩ = false := free_at hr1
        have q0 : w5.cell? ⟨X + 1 + 1, 0, none⟩ = some (.string ⟨#[]⟩) := cell_at hr2
        have q1 : w5.cell? ⟨X + 1 + 1, 1, none⟩ = some (.int .u32 0) := cell_at hr2
        have e0 : w5.frozen? ⟨X + 1 + 1, 0, none⟩ = false := free_at hr2
        have e1 : w5.frozen? ⟨X + 1 + 1, 1, none⟩ = false := free_at hr2
        clear hB5 hO gP gY hr1 hr2 hsa hsp HB2
        go_upto_region 5 with fail
        go_region
        go_wp2_with fail
        exact bodyPost_ret (v := .tuple #[.agg #[.string sa, .int .u32 z.a.idx, .int .i64 z.a.val, .int .i64 z.a.br, .int .u16 z.a.lock.tag, .int .u16 z.a.lock.delay, .int .u32 z.a.lock.height, .int .i64 z.a.dead], .agg #[.string sp, .int .u32 z.pidx]]) (by simp [results, Try.results7, go_sem, r0, r1, r2, r3, r4, r5, r6, r7, q0, q1]) rfl ⟨by rw [HSA.out, HSP.out]; rfl, ((((((((((HB5.out.setCell (p := ⟨X + 1, 0, none⟩) (show w.heap.size ≤ X + 1 by omega) _).setCell (p := ⟨X + 1, 1, none⟩) (show w.heap.size ≤ X + 1 by omega) _).setCell (p := ⟨X + 1, 2, none⟩) (show w.heap.size ≤ X + 1 by omega) _).setCell (p := ⟨X + 1, 3, none⟩) (show w.heap.size ≤ X + 1 by omega) _).setCell (p := ⟨X + 1, 4, none⟩) (show w.heap.size ≤ X + 1 by omega) _).setCell (p := ⟨X + 1, 5, none⟩) (show w.heap.size ≤ X + 1 by omega) _).setCell (p := ⟨X + 1, 6, none⟩) (show w.heap.size ≤ X + 1 by omega) _).setCell (p := ⟨X + 1, 7, none⟩) (show w.heap.size ≤ X + 1 by omega) _).setCell (p := ⟨X + 1 + 1, 0, none⟩) (show w.heap.size ≤ X + 1 + 1 by omega) _).setCell (p := ⟨X + 1 + 1, 1, none⟩) (show w.heap.size ≤ X + 1 + 1 by omega) _).drew⟩
end Go.Proofs.Ytmakghcoehkphaa
end

section
/-
  The law's signs of life. Conditions: none.
-/
namespace Go.Proofs.Ytmakghcoehkphaa
open Go.RowKit Go.BigFrame
set_option linter.unusedVariables false
set_option linter.unusedSimpArgs false

def z0 : PRaw := ⟨⟨⟨#[]⟩, 0, 0, 0, ⟨0, 0, 0⟩, 0⟩, ⟨#[]⟩, 0, 0, 0, 0, false⟩
theorem of_zero (w : World) : Calls Try.prog 7 #[.agg #[.string ⟨#[]⟩, .int .u32 0, .int .i64 0, .int .i64 0, .int .u16 0, .int .u16 0, .int .u32 0, .int .i64 0, .string ⟨#[]⟩, .int .u32 0, .int .i64 0, .int .u16 0, .int .i64 0, .bool false]] w fun e w' =>
    e = .returned (.tuple #[.agg #[.string (idB 1), .int .u32 0, .int .i64 0, .int .i64 0, .int .u16 0, .int .u16 0, .int .u32 0, .int .i64 0], .agg #[.string (idB 2), .int .u32 0]]) ∧ Below w.heap.size w w' := of_any z0 w
theorem idB12 : idB 1 ≠ idB 2 := by decide +kernel
theorem idB1_base : isBase (idB 1) 0 = false := by decide +kernel
theorem idB2_base : isBase (idB 2) 0 = false := by decide +kernel
def wkA : PCl := ⟨idB 1, 0, 330, 0, ⟨0, 0, 0⟩, 0⟩
def wkTx : PTx := childTx wkA (idB 2) 0 7 830
theorem wkA_ok : wkA.Ok := ⟨by show (idB 1).size ≤ _; rw [idB_size]; decide, by show 0 < _; decide, by show (_ : Int) ≤ 330 ∧ (330 : Int) ≤ _; decide, by show (_ : Int) ≤ 0 ∧ (0 : Int) ≤ _; decide, ⟨by show 0 < _; decide, by show 0 < _; decide, by show 0 < _; decide⟩, by show (_ : Int) ≤ 0 ∧ (0 : Int) ≤ _; decide⟩
theorem wkTx_check : checkOf wkTx = 0 := child_check (idB_size _) (idB_size _) (show isBase (idB 1) 0 = false from idB1_base) idB2_base (fun e => idB12 (congrArg Prod.fst e)) (by decide)
theorem wk_of : childOf wkA (idB 2) 0 1000 7 500 = (wkTx, 0) := by
  unfold childOf
  rw [if_neg (by decide), if_neg (by decide), if_neg (by decide), if_neg (by decide)]
  have h : checkOf (childTx wkA (idB 2) 0 7 (wkA.val + 1000 - 500)) = 0 := wkTx_check
  rw [if_neg (by rw [h]; decide)]
  rfl
theorem wk_build (w : World) : Calls Try.prog 8 #[.agg #[.string (idB 1), .int .u32 0, .int .i64 330, .int .i64 0, .int .u16 0, .int .u16 0, .int .u32 0, .int .i64 0], .agg #[.string (idB 2), .int .u32 0, .int .i64 1000, .string ⟨#[]⟩, .int .i64 0], .int .u16 7, .int .i64 500] w (BuildIs (wkTx, 0) w) := by
  have h := cbuild_any wkA (idB 2) 0 1000 ⟨#[]⟩ 0 7 500 wkA_ok (by rw [idB_size]; decide) (by decide) (by decide) w
  rw [wk_of] at h
  exact h
theorem wk_bad (w : World) : Calls Try.prog 8 #[.agg #[.string (idB 1), .int .u32 0, .int .i64 330, .int .i64 0, .int .u16 0, .int .u16 0, .int .u32 0, .int .i64 0], .agg #[.string (idB 2), .int .u32 0, .int .i64 0, .string ⟨#[]⟩, .int .i64 0], .int .u16 0, .int .i64 0] w (BuildIs (noTx, 2) w) := by
  have h := cbuild_any wkA (idB 2) 0 0 ⟨#[]⟩ 0 0 0 wkA_ok (by rw [idB_size]; decide) (by decide) (by decide) w
  rw [child_bad (.inl rfl)] at h
  exact h
theorem wk_bid (w : World) : Calls Try.prog 12 #[.int .i64 5000, .int .i64 0, .int .i64 100] w (PBs (1065, 0) w) := by
  have h := cbid_any 5000 0 100 w
  rw [show bidE 5000 0 100 = (1065, 0) by decide] at h
  exact h
set_option maxRecDepth 100000 in
set_option maxHeartbeats 4000000 in
theorem wakes24_any (w : World) : Calls Try.prog 11 #[] w (BIs true w) := by
  have HW1 := Lib.hid of_zero
  have HW2 := Lib.hid wk_build
  have HW3 := Lib.hid wk_bad
  generalize idB 1 = i1 at *
  generalize idB 2 = i2 at *
  go_enter Try.func11, Try.ntmps11
  go_wp2_with fail
  refine (wk_bid w).mono ?_
  rintro e w1 ⟨rfl, hb⟩
  have HB1 := Lib.hid hb
  clear hb
  go_wp2_with fail
  refine (HW1.out w1).mono ?_
  rintro e w2 ⟨rfl, hb⟩
  have HB2 := Lib.hid (HB1.out.trans (hb.mono HB1.out.size))
  clear hb HB1
  go_upto_region 3 with fail
  obtain ⟨X, hX⟩ : ∃ q, q = w2.heap.size := ⟨_, rfl⟩
  have hnews := new2 w2 X hX (.cells #[.string i1, .int .u32 0, .int .i64 0, .int .i64 0, .int .u16 0, .int .u16 0, .int .u32 0, .int .i64 0] 29) (.cells #[.string i2, .int .u32 0] 24)
  rw [← hX]
  generalize ((w2.alloc (.cells #[.string i1, .int .u32 0, .int .i64 0, .int .i64 0, .int .u16 0, .int .u16 0, .int .u32 0, .int .i64 0] 29)).alloc (.cells #[.string i2, .int .u32 0] 24)) = w3 at *
  obtain ⟨hz0, hz1, hal⟩ := hnews
  have hX1 : w.heap.size ≤ X := by have := HB2.out.size; omega
  have HB3 := Lib.hid (HB2.out.trans (hal.mono HB2.out.size))
  have HZ0 := Lib.hid hz0
  have HZ1 := Lib.hid hz1
  have c2 : w3.cell? ⟨X, 2, none⟩ = some (.int .i64 0) := cell_at hz0
  have f2 : w3.frozen? ⟨X, 2, none⟩ = false := free_at hz0
  clear hz0 hz1 hal hX HB2 HW1
  go_upto_region 4 with fail
  have g0 := heap_setCell_at (j := 2) (u := .int .i64 330) HZ0.out
  have g1 : (w3.setCell ⟨X, 2, none⟩ (.int .i64 330)).heap[X + 1]? = _ := (Below.heap_setCell _ _ _ _ (by show X + 1 ≠ X; omega)).trans HZ1.out
  have HB4 := Lib.hid (HB3.out.setCell (p := ⟨X, 2, none⟩) hX1 (.int .i64 330))
  generalize w3.setCell ⟨X, 2, none⟩ (.int .i64 330) = w4 at *
  have c0 : w4.cell? ⟨X, 0, none⟩ = some (.string i1) := cell_at g0
  have c1 : w4.cell? ⟨X, 1, none⟩ = some (.int .u32 0) := cell_at g0
  have e2 : w4.cell? ⟨X, 2, none⟩ = some (.int .i64 330) := cell_at g0
  have c3 : w4.cell? ⟨X, 3, none⟩ = some (.int .i64 0) := cell_at g0
  have c4 : w4.cell? ⟨X, 4, none⟩ = some (.int .u16 0) := cell_at g0
  have c5 : w4.cell? ⟨X, 5, none⟩ = some (.int .u16 0) := cell_at g0
  have c6 : w4.cell? ⟨X, 6, none⟩ = some (.int .u32 0) := cell_at g0
  have c7 : w4.cell? ⟨X, 7, none⟩ = some (.int .i64 0) := cell_at g0
  have d0 : w4.cell? ⟨X + 1, 0, none⟩ = some (.string i2) := cell_at g1
  have d1 : w4.cell? ⟨X + 1, 1, none⟩ = some (.int .u32 0) := cell_at g1
  clear g0 g1 f2 c2 HB3 HZ0 HZ1
  go_wp2_with fail
  refine (HW2.out w4).mono ?_
  rintro e w5 ⟨v, rfl, htx, hb⟩
  have HB5 := Lib.hid (HB4.out.trans (hb.mono HB4.out.size))
  replace c0 := below_cells hb _ _ c0
  replace c1 := below_cells hb _ _ c1
  replace e2 := below_cells hb _ _ e2
  replace c3 := below_cells hb _ _ c3
  replace c4 := below_cells hb _ _ c4
  replace c5 := below_cells hb _ _ c5
  replace c6 := below_cells hb _ _ c6
  replace c7 := below_cells hb _ _ c7
  replace d0 := below_cells hb _ _ d0
  replace d1 := below_cells hb _ _ d1
  clear hb HB4 HW2
  obtain ⟨va, vo, rfl, ha, hob, -, -⟩ := htx.at
  obtain ⟨a1, n1, rfl, -, -⟩ := ha.shape
  obtain ⟨a2, n2, rfl, -, -⟩ := hob.shape
  obtain ⟨b, o, x, rfl, hx, -, q0, -⟩ := hob.outp (i := 0) (show 0 < 1 by decide)
  obtain rfl : (⟨830, scrT 7⟩ : POut) = x := Option.some.inj hx
  dsimp only at q0
  rw [show o + 0 * 2 = o by omega] at q0
  rw [show (wkTx, (0 : Int)).1.ver = 2 from rfl, show (wkTx, (0 : Int)).1.lock = 0 from rfl, show (wkTx, (0 : Int)).1.ins.length = 2 from rfl, show (wkTx, (0 : Int)).1.outs.length = 1 from rfl]
  clear ha hob hx
  go_upto_region 5 with fail
  have hz := heap_alloc_new w5 (.cells #[.int .u32 (2 : Nat), .slice a1 2 n1, .slice (some ⟨b, o, none⟩) 1 n2, .int .u32 (0 : Nat)] 43)
  have hal : Below w5.heap.size w5 (w5.alloc (.cells #[.int .u32 (2 : Nat), .slice a1 2 n1, .slice (some ⟨b, o, none⟩) 1 n2, .int .u32 (0 : Nat)] 43)) := (Below.refl _ _).alloc (Nat.le_refl _) _
  obtain ⟨T, hT⟩ : ∃ q, q = w5.heap.size := ⟨_, rfl⟩
  rw [← hT] at hz ⊢
  generalize w5.alloc (.cells #[.int .u32 (2 : Nat), .slice a1 2 n1, .slice (some ⟨b, o, none⟩) 1 n2, .int .u32 (0 : Nat)] 43) = w6 at *
  have t2 : w6.cell? ⟨T, 2, none⟩ = some (.slice (some ⟨b, o, none⟩) 1 n2) := cell_at hz
  have HB6 := Lib.hid (HB5.out.trans (hal.mono HB5.out.size))
  replace q0 := below_cells hal _ _ q0
  replace c0 := below_cells hal _ _ c0
  replace c1 := below_cells hal _ _ c1
  replace e2 := below_cells hal _ _ e2
  replace c3 := below_cells hal _ _ c3
  replace c4 := below_cells hal _ _ c4
  replace c5 := below_cells hal _ _ c5
  replace c6 := below_cells hal _ _ c6
  replace c7 := below_cells hal _ _ c7
  replace d0 := below_cells hal _ _ d0
  replace d1 := below_cells hal _ _ d1
  clear hz hal hT HB5
  go_wp2_with fail
  refine (HW3.out w6).mono ?_
  rintro e w7 ⟨v, rfl, htx, hb⟩
  have HB7 := Lib.hid (HB6.out.trans (hb.mono HB6.out.size))
  replace q0 := below_cells hb _ _ q0
  replace t2 := below_cells hb _ _ t2
  clear hb HB6 HW3 c0 c1 e2 c3 c4 c5 c6 c7 d0 d1
  obtain ⟨va, vo, rfl, ha, hob, -, -⟩ := htx.at
  obtain ⟨a1, m1, rfl, -, -⟩ := ha.shape
  obtain ⟨a2, m2, rfl, -, -⟩ := hob.shape
  rw [show (noTx, (2 : Int)).1.ver = 0 from rfl, show (noTx, (2 : Int)).1.lock = 0 from rfl, show (noTx, (2 : Int)).1.ins.length = 0 from rfl, show (noTx, (2 : Int)).1.outs.length = 0 from rfl]
  clear ha hob
  go_upto_region 6 with fail
  have hz := heap_alloc_new w7 (.cells #[.int .u32 (0 : Nat), .slice a1 0 m1, .slice a2 0 m2, .int .u32 (0 : Nat)] 43)
  have hal : Below w7.heap.size w7 (w7.alloc (.cells #[.int .u32 (0 : Nat), .slice a1 0 m1, .slice a2 0 m2, .int .u32 (0 : Nat)] 43)) := (Below.refl _ _).alloc (Nat.le_refl _) _
  obtain ⟨U, hU⟩ : ∃ q, q = w7.heap.size := ⟨_, rfl⟩
  rw [← hU] at hz ⊢
  generalize w7.alloc (.cells #[.int .u32 (0 : Nat), .slice a1 0 m1, .slice a2 0 m2, .int .u32 (0 : Nat)] 43) = w8 at *
  have HB8 := Lib.hid (HB7.out.trans (hal.mono HB7.out.size))
  replace q0 := below_cells hal _ _ q0
  replace t2 := below_cells hal _ _ t2
  clear hz hal hU HB7
  go_wp2_with fail
  refine (csize_any w8).mono ?_
  rintro e w9 ⟨rfl, hb⟩
  have HB9 := Lib.hid (HB8.out.trans (hb.mono HB8.out.size))
  replace q0 := below_cells hb _ _ q0
  replace t2 := below_cells hb _ _ t2
  clear hb HB8
  go_wp2_with fail
  go_ret
  exact ⟨rfl, HB9.out⟩
end Go.Proofs.Ytmakghcoehkphaa
end
