/-
  claim.Build. Conditions: the claims lie in memory, the numbers are ones of their kinds.
-/
import Derived.Test.YtmakghcoehkphaaGreatKm2
import Derived.Test.YtmakghcoehkphaaGreatQ11ClaimBuilds
import Derived.Test.YtmakghcoehkphaaGreatQ4ClaimBuilds
namespace Go.Proofs.YtmakghcoehkphaaGreat
open Go.RowKit Go.BigFrame
set_option linter.unusedVariables false
set_option linter.unusedSimpArgs false

theorem sumA_good : ∀ (l : List Int) (s : Int), goodA s = true → (sumA s l).2 = 0 → goodA (sumA s l).1 = true
  | [], s, hs, _ => by unfold sumA; exact hs
  | a :: l, s, hs, h => by
    rw [sumA_step] at h ⊢
    by_cases h1 : (addA s a).2 = 0
    · rw [if_pos h1] at h ⊢
      exact sumA_good l _ (addA_ok h1).1 h
    · rw [if_neg h1] at h
      exact absurd h (by decide)
/-- What is known of the sum. -/
theorem sum_facts (cv : Int) (l : List PCl) : (sumA 0 (valsOf cv l)).2 = 0 → 0 ≤ (sumA 0 (valsOf cv l)).1 ∧ (sumA 0 (valsOf cv l)).1 ≤ 2100000000000000 := fun h => (goodA_iff _).1 (sumA_good _ 0 (by decide) h)
theorem namedC_br {l : List PCl} (h : (l.any fun a => !namedC a) = false) : ∀ a ∈ l, 0 ≤ a.br ∧ a.br < 3 := fun a ha => by
  have h1 := List.any_eq_false.1 h a ha
  have h2 : namedC a = true := by simpa using h1
  unfold namedC at h2
  simp only [Bool.and_eq_true, decide_eq_true_eq] at h2
  omega
set_option maxRecDepth 100000 in
set_option maxHeartbeats 4000000 in
theorem claimB_any (v : Value) (l : List PCl) (cid : ByteArray) (ci : Nat) (cv : Int) (cs : ByteArray) (ch : Int) (tag : Nat) (fee : Int) (w : World) (hv : SlAt rpCl w v l) (hlen : l.length ≤ 1000) (hc : cid.size ≤ maxLen) (hci : ci < 4294967296) (hcv : (Lit.int .i64 cv).wf = true) (ht : tag < 65536) :
    Calls Tryz.prog 10 #[v, enV cid ci cv cs ch, .int .u16 tag, .int .i64 fee] w (BuildIs (claimsOf l cid ci cv tag fee) w) := by
  obtain ⟨z, hzz⟩ : ∃ z, z = claimsOf l cid ci cv tag fee := ⟨_, rfl⟩
  rw [← hzz]
  have HSL := Lib.hid hv
  obtain ⟨a, c, rfl, hl1, hl2⟩ := hv.shape
  rw [maxLen_eq] at hl2
  obtain ⟨n, hn⟩ : ∃ n, n = l.length := ⟨_, rfl⟩
  rw [← hn] at hl1 HSL hlen ⊢
  have HN := Lib.hid hn
  have hz1 : z = _ := hzz
  unfold claimsOf at hz1
  rw [← hn] at hz1
  have HQ1 := Lib.hid hz1
  have HCV := Lib.hid hcv
  have HCI := Lib.hid hc
  unfold enV
  clear hv hn hzz hz1 hcv hc
  go_enter Tryz.func10, Tryz.ntmps10
  go_upto_region 1 with fail
  obtain ⟨X, hX⟩ : ∃ q, q = w.heap.size := ⟨_, rfl⟩
  have hnews := new2 w X hX (.cells #[.string cid, .int .u32 ci, .int .i64 cv, .string cs, .int .i64 ch] 49) (.cells #[.int .u32 0, .slice none 0 0, .slice none 0 0, .int .u32 0] 44)
  rw [← hX]
  generalize ((w.alloc (.cells #[.string cid, .int .u32 ci, .int .i64 cv, .string cs, .int .i64 ch] 49)).alloc (.cells #[.int .u32 0, .slice none 0 0, .slice none 0 0, .int .u32 0] 44)) = w0 at *
  obtain ⟨hz0, hz1, hal⟩ := hnews
  have hX2 : w.heap.size ≤ X + 1 := by omega
  have hl2' : X + 1 < w0.heap.size := (Array.getElem?_eq_some_iff.1 hz1).1
  have HB0 := Lib.hid hal
  have HZ0 := Lib.hid hz0
  have HZ1 := Lib.hid hz1
  have c0 : w0.cell? ⟨X, 0, none⟩ = some (.string cid) := cell_at hz0
  have c1 : w0.cell? ⟨X, 1, none⟩ = some (.int .u32 ci) := cell_at hz0
  have c2 : w0.cell? ⟨X, 2, none⟩ = some (.int .i64 cv) := cell_at hz0
  have c3 : w0.cell? ⟨X, 3, none⟩ = some (.string cs) := cell_at hz0
  have c4 : w0.cell? ⟨X, 4, none⟩ = some (.int .i64 ch) := cell_at hz0
  have HS := Lib.hid (csum_any _ l cid ci cv cs ch HCV.out w0 (HSL.out.below hal) (by rw [← HN.out]; exact hlen))
  clear hz0 hz1 hal hX
  have HSF := Lib.hid (sum_facts cv l)
  rw [show cv :: l.map (·.val) = valsOf cv l from rfl] at HQ1
  obtain ⟨su, hsu⟩ : ∃ su, su = sumA 0 (valsOf cv l) := ⟨_, rfl⟩
  unfold CSumIs at HS
  rw [← hsu] at HS HQ1 HSF
  obtain ⟨s1, s2⟩ := su
  dsimp only at *
  clear hsu
  go_wp2_with fail
  refine HS.out.mono ?_
  rintro e w1 ⟨rfl, hb⟩
  have HB1 := Lib.hid (HB0.out.trans (hb.mono HB0.out.size))
  have HZ0 := Lib.hid ((hb.block X (by omega)).trans HZ0.out)
  have HZ1 := Lib.hid ((hb.block (X + 1) hl2').trans HZ1.out)
  have hl3 : X + 1 < w1.heap.size := Nat.lt_of_lt_of_le hl2' hb.size
  clear hb c0 c1 c2 c3 c4 HS HB0
  have r0 : w1.cell? ⟨X + 1, 0, none⟩ = some (.int .u32 0) := cell_at HZ1.out
  have r1 : w1.cell? ⟨X + 1, 1, none⟩ = some (.slice none 0 0) := cell_at HZ1.out
  have r2 : w1.cell? ⟨X + 1, 2, none⟩ = some (.slice none 0 0) := cell_at HZ1.out
  have r3 : w1.cell? ⟨X + 1, 3, none⟩ = some (.int .u32 0) := cell_at HZ1.out
  have f0 : w1.frozen? ⟨X + 1, 0, none⟩ = false := free_at HZ1.out
  have f1 : w1.frozen? ⟨X + 1, 1, none⟩ = false := free_at HZ1.out
  have f2 : w1.frozen? ⟨X + 1, 2, none⟩ = false := free_at HZ1.out
  have f3 : w1.frozen? ⟨X + 1, 3, none⟩ = false := free_at HZ1.out
  have HCT := Lib.hid (countedC_any (n : Int) w1)
  have HCC := Lib.hid (show (decide (1 ≤ (n : Int)) && decide ((n : Int) ≤ 32)) = true ↔ ¬ (n < 1 ∨ 32 < n) by simp only [Bool.and_eq_true, decide_eq_true_eq]; omega)
  generalize (decide (1 ≤ (n : Int)) && decide ((n : Int) ≤ 32)) = cb at *
  cases cb
  · have HZ := Lib.hid (HQ1.out.trans (if_pos (Classical.byContradiction fun h => by have := HCC.out.2 h; cases this)))
    clear HQ1
    go_wp2_with fail
    refine HCT.out.mono ?_
    rintro e w' ⟨rfl, rfl⟩
    go_wp2_with fail
    exact bodyPost_ret (v := .tuple #[.agg #[.int .u32 0, .slice none 0 0, .slice none 0 0, .int .u32 0], .int .i64 6]) (by simp [results, Tryz.results10, go_sem, r0, r1, r2, r3]) rfl (build_is HZ.out (tx_zero _ _) (set4_zero HB1.out hX2 _ _ _ _))
  have hcount := HCC.out.1 rfl
  have HQ2 := Lib.hid (HQ1.out.trans (if_neg hcount))
  have hn32 : n ≤ 32 := by omega
  clear HQ1 HCC hcount
  by_cases ht0 : tag = 0
  · subst ht0
    have HZ := Lib.hid (HQ2.out.trans (if_pos (.inl rfl)))
    go_wp2_with fail
    refine HCT.out.mono ?_
    rintro e w' ⟨rfl, rfl⟩
    go_wp2_with fail
    exact bodyPost_ret (v := .tuple #[.agg #[.int .u32 0, .slice none 0 0, .slice none 0 0, .int .u32 0], .int .i64 2]) (by simp [results, Tryz.results10, go_sem, r0, r1, r2, r3]) rfl (build_is HZ.out (tx_zero _ _) (set4_zero HB1.out hX2 _ _ _ _))
  have ht2 : ((tag : Int) == 0) = false := by simpa using ht0
  have ht3 : ¬ (tag : Int) = 0 := by omega
  have HBD := Lib.hid (badC_any _ l w1 (HSL.out.below HB1.out))
  have HBR := Lib.hid (namedC_br (l := l))
  generalize (l.any fun a => !namedC a) = nb at *
  cases nb
  rotate_left
  · have HZ := Lib.hid (HQ2.out.trans (if_pos (.inr rfl)))
    go_wp2_with fail
    refine HCT.out.mono ?_
    rintro e w' ⟨rfl, rfl⟩
    go_wp2_with fail
    refine HBD.out.mono ?_
    rintro e w2 ⟨rfl, hb⟩
    have HB2 := Lib.hid (HB1.out.trans (hb.mono HB1.out.size))
    have HZ1 := Lib.hid ((hb.block _ hl3).trans HZ1.out)
    clear hb r0 r1 r2 r3 f0 f1 f2 f3
    have r0 : w2.cell? ⟨X + 1, 0, none⟩ = some (.int .u32 0) := cell_at HZ1.out
    have r1 : w2.cell? ⟨X + 1, 1, none⟩ = some (.slice none 0 0) := cell_at HZ1.out
    have r2 : w2.cell? ⟨X + 1, 2, none⟩ = some (.slice none 0 0) := cell_at HZ1.out
    have r3 : w2.cell? ⟨X + 1, 3, none⟩ = some (.int .u32 0) := cell_at HZ1.out
    have f0 : w2.frozen? ⟨X + 1, 0, none⟩ = false := free_at HZ1.out
    have f1 : w2.frozen? ⟨X + 1, 1, none⟩ = false := free_at HZ1.out
    have f2 : w2.frozen? ⟨X + 1, 2, none⟩ = false := free_at HZ1.out
    have f3 : w2.frozen? ⟨X + 1, 3, none⟩ = false := free_at HZ1.out
    go_wp2_with fail
    exact bodyPost_ret (v := .tuple #[.agg #[.int .u32 0, .slice none 0 0, .slice none 0 0, .int .u32 0], .int .i64 2]) (by simp [results, Tryz.results10, go_sem, r0, r1, r2, r3]) rfl (build_is HZ.out (tx_zero _ _) (set4_zero HB2.out hX2 _ _ _ _))
  have HQ3 := Lib.hid (HQ2.out.trans (if_neg (by rintro (h | h); exact ht0 h; cases h)))
  clear HQ2
  go_wp2_with fail
  refine HCT.out.mono ?_
  rintro e w' ⟨rfl, rfl⟩
  go_wp2_with fail
  refine HBD.out.mono ?_
  rintro e w2 ⟨rfl, hb⟩
  have HB2 := Lib.hid (HB1.out.trans (hb.mono HB1.out.size))
  have HZ0 := Lib.hid ((hb.block X (by omega)).trans HZ0.out)
  have HZ1 := Lib.hid ((hb.block _ hl3).trans HZ1.out)
  have hl4 : X + 1 < w2.heap.size := Nat.lt_of_lt_of_le hl3 hb.size
  clear hb r0 r1 r2 r3 f0 f1 f2 f3 HB1 HBD HCT
  have r0 : w2.cell? ⟨X + 1, 0, none⟩ = some (.int .u32 0) := cell_at HZ1.out
  have r1 : w2.cell? ⟨X + 1, 1, none⟩ = some (.slice none 0 0) := cell_at HZ1.out
  have r2 : w2.cell? ⟨X + 1, 2, none⟩ = some (.slice none 0 0) := cell_at HZ1.out
  have r3 : w2.cell? ⟨X + 1, 3, none⟩ = some (.int .u32 0) := cell_at HZ1.out
  have f0 : w2.frozen? ⟨X + 1, 0, none⟩ = false := free_at HZ1.out
  have f1 : w2.frozen? ⟨X + 1, 1, none⟩ = false := free_at HZ1.out
  have f2 : w2.frozen? ⟨X + 1, 2, none⟩ = false := free_at HZ1.out
  have f3 : w2.frozen? ⟨X + 1, 3, none⟩ = false := free_at HZ1.out
  have HG := Lib.hid (good_any fee w2)
  by_cases hs2 : s2 = 0
  rotate_left
  · have HZ := Lib.hid (HQ3.out.trans (if_pos (.inl hs2)))
    have hne : (s2 == 0) = false := by simpa using hs2
    go_wp2_with fail
    exact bodyPost_ret (v := .tuple #[.agg #[.int .u32 0, .slice none 0 0, .slice none 0 0, .int .u32 0], .int .i64 3]) (by simp [results, Tryz.results10, go_sem, r0, r1, r2, r3]) rfl (build_is HZ.out (tx_zero _ _) (set4_zero HB2.out hX2 _ _ _ _))
  have hs4 := HSF.out hs2
  subst hs2
  cases hg : goodA fee
  · rw [hg] at HG
    have HZ := Lib.hid (HQ3.out.trans (if_pos (.inr hg)))
    clear hg
    go_wp2_with fail
    refine HG.out.mono ?_
    rintro e w' ⟨rfl, rfl⟩
    go_wp2_with fail
    exact bodyPost_ret (v := .tuple #[.agg #[.int .u32 0, .slice none 0 0, .slice none 0 0, .int .u32 0], .int .i64 3]) (by simp [results, Tryz.results10, go_sem, r0, r1, r2, r3]) rfl (build_is HZ.out (tx_zero _ _) (set4_zero HB2.out hX2 _ _ _ _))
  have hfe := (goodA_iff _).1 hg
  rw [hg] at HG
  have HQ4 := Lib.hid (HQ3.out.trans (if_neg (by rw [hg]; simp)))
  clear hg HQ3
  by_cases hlt : s1 < fee
  · have HZ := Lib.hid (HQ4.out.trans (if_pos hlt))
    go_wp2_with fail
    refine HG.out.mono ?_
    rintro e w' ⟨rfl, rfl⟩
    go_wp2_with fail
    exact bodyPost_ret (v := .tuple #[.agg #[.int .u32 0, .slice none 0 0, .slice none 0 0, .int .u32 0], .int .i64 12]) (by simp [results, Tryz.results10, go_sem, r0, r1, r2, r3]) rfl (build_is HZ.out (tx_zero _ _) (set4_zero HB2.out hX2 _ _ _ _))
  have hz5 : z = _ := HQ4.out.trans (if_neg hlt)
  obtain ⟨V, hV⟩ : ∃ V, V = s1 - fee := ⟨_, rfl⟩
  rw [← hV] at hz5
  have HQ5 := Lib.hid hz5
  have hV2 : 0 ≤ V ∧ V ≤ 2100000000000000 := by omega
  have e0 : w2.cell? ⟨X, 0, none⟩ = some (.string cid) := cell_at HZ0.out
  have e1 : w2.cell? ⟨X, 1, none⟩ = some (.int .u32 ci) := cell_at HZ0.out
  have HM := Lib.hid (cmade_any _ l cid ci tag V w2 (HSL.out.below HB2.out) (by rw [← HN.out]; omega) (HBR.out trivial) HCI.out hci ht (by omega))
  have HIL := Lib.hid (show (claimTx l cid ci tag V).ins.length ≤ 33 by rw [claim_ins_len, ← HN.out]; omega)
  obtain ⟨t, htt⟩ : ∃ t, t = claimTx l cid ci tag V := ⟨_, rfl⟩
  have HOL := Lib.hid (show t.outs.length ≤ 1000 by rw [htt]; show 1 ≤ 1000; decide)
  rw [← htt] at HM HQ5 HIL
  clear hz5 htt
  go_wp2_with fail
  refine HG.out.mono ?_
  rintro e w' ⟨rfl, rfl⟩
  go_wp2_with fail
  rw [← hV]
  refine HM.out.mono ?_
  rintro e w3 ⟨ia, ic, q, rfl, hq, gq, htx, hb⟩
  generalize t.ins.length = ni at *
  have hsz2 := HB2.out.size
  have hl5 : X + 1 < w3.heap.size := Nat.lt_of_lt_of_le hl4 hb.size
  have hq2 : q < w3.heap.size := (Array.getElem?_eq_some_iff.1 gq).1
  have HB3 := Lib.hid (HB2.out.trans (hb.mono HB2.out.size))
  have HZ1 := Lib.hid ((hb.block _ hl4).trans HZ1.out)
  have HTX := Lib.hid htx
  have HGQ := Lib.hid gq
  clear htx gq hb HM HG HZ0 r0 r1 r2 r3 f0 f1 f2 f3 e0 e1 HB2
  go_upto_region 11 with fail
  have hz := heap_alloc_new w3 (.cells #[.int .u32 2, .slice ia ni ic, .slice (some ⟨q, 0, none⟩) 1 1, .int .u32 t.lock] 44)
  have hal : Below w3.heap.size w3 (w3.alloc (.cells #[.int .u32 2, .slice ia ni ic, .slice (some ⟨q, 0, none⟩) 1 1, .int .u32 t.lock] 44)) := (Below.refl _ _).alloc (Nat.le_refl _) _
  obtain ⟨Y, hY⟩ : ∃ q, q = w3.heap.size := ⟨_, rfl⟩
  rw [← hY] at hz ⊢
  generalize w3.alloc (.cells #[.int .u32 2, .slice ia ni ic, .slice (some ⟨q, 0, none⟩) 1 1, .int .u32 t.lock] 44) = w4 at *
  have y0 : w4.cell? ⟨Y, 0, none⟩ = some (.int .u32 2) := cell_at hz
  have y1 : w4.cell? ⟨Y, 1, none⟩ = some (.slice ia ni ic) := cell_at hz
  have y2 : w4.cell? ⟨Y, 2, none⟩ = some (.slice (some ⟨q, 0, none⟩) 1 1) := cell_at hz
  have y3 : w4.cell? ⟨Y, 3, none⟩ = some (.int .u32 t.lock) := cell_at hz
  have q0 : w4.cell? ⟨q, 0, none⟩ = some (.int .i64 V) := cell_at ((hal.block q hq2).trans HGQ.out)
  have q1 : w4.cell? ⟨q, 1, none⟩ = some (.string (scrT tag)) := cell_at ((hal.block q hq2).trans HGQ.out)
  have hl6 : X + 1 < w4.heap.size := Nat.lt_of_lt_of_le hl5 hal.size
  have HB4 := Lib.hid (HB3.out.trans (hal.mono HB3.out.size))
  have HZ1 := Lib.hid ((hal.block _ hl5).trans HZ1.out)
  have HTX := Lib.hid (HTX.out.below hal)
  have HD := Lib.hid (dust_any (.agg #[.int .i64 V, .string (scrT tag)]) ⟨V, scrT tag⟩ w4 ⟨rfl, ⟨by show _ ≤ V; omega, by show V ≤ _; omega⟩, by show (scrT tag).size ≤ _; rw [scrT_size]; decide⟩)
  rw [child_dust] at HD
  clear hz hal HGQ HB3 hY hV
  by_cases hd : V < 255
  · have HZ := Lib.hid (HQ5.out.trans (if_pos hd))
    rw [decide_eq_true hd] at HD
    go_wp2_with fail
    refine HD.out.mono ?_
    rintro e w5 ⟨rfl, hb⟩
    have HB5 := Lib.hid (HB4.out.trans (hb.mono HB4.out.size))
    have HZ1 := Lib.hid ((hb.block _ hl6).trans HZ1.out)
    have r0 : w5.cell? ⟨X + 1, 0, none⟩ = some (.int .u32 0) := cell_at HZ1.out
    have r1 : w5.cell? ⟨X + 1, 1, none⟩ = some (.slice none 0 0) := cell_at HZ1.out
    have r2 : w5.cell? ⟨X + 1, 2, none⟩ = some (.slice none 0 0) := cell_at HZ1.out
    have r3 : w5.cell? ⟨X + 1, 3, none⟩ = some (.int .u32 0) := cell_at HZ1.out
    have f0 : w5.frozen? ⟨X + 1, 0, none⟩ = false := free_at HZ1.out
    have f1 : w5.frozen? ⟨X + 1, 1, none⟩ = false := free_at HZ1.out
    have f2 : w5.frozen? ⟨X + 1, 2, none⟩ = false := free_at HZ1.out
    have f3 : w5.frozen? ⟨X + 1, 3, none⟩ = false := free_at HZ1.out
    clear hb y0 y1 y2 y3 q0 q1
    go_wp2_with fail
    exact bodyPost_ret (v := .tuple #[.agg #[.int .u32 0, .slice none 0 0, .slice none 0 0, .int .u32 0], .int .i64 13]) (by simp [results, Tryz.results10, go_sem, r0, r1, r2, r3]) rfl (build_is HZ.out (tx_zero _ _) (set4_zero HB5.out hX2 _ _ _ _))
  have HQ6 := Lib.hid (HQ5.out.trans (if_neg hd))
  rw [decide_eq_false hd] at HD
  go_wp2_with fail
  refine HD.out.mono ?_
  rintro e w5 ⟨rfl, hb⟩
  have hl7 : X + 1 < w5.heap.size := Nat.lt_of_lt_of_le hl6 hb.size
  have HB5 := Lib.hid (HB4.out.trans (hb.mono HB4.out.size))
  have HZ1 := Lib.hid ((hb.block _ hl6).trans HZ1.out)
  have HTX := Lib.hid (HTX.out.below hb)
  replace y0 := below_cells hb _ _ y0
  replace y1 := below_cells hb _ _ y1
  replace y2 := below_cells hb _ _ y2
  replace y3 := below_cells hb _ _ y3
  clear hb q0 q1 HD HB4
  have HCK := Lib.hid (check_any _ _ w5 HTX.out.at HOL.out)
  obtain ⟨ck, hck⟩ : ∃ ck, ck = checkOf t := ⟨_, rfl⟩
  rw [← hck] at HCK HQ6
  go_wp2_with fail
  refine HCK.out.mono ?_
  rintro e w6 ⟨rfl, hb⟩
  have HB6 := Lib.hid (HB5.out.trans (hb.mono HB5.out.size))
  have HZ1 := Lib.hid ((hb.block _ hl7).trans HZ1.out)
  have HTX := Lib.hid (HTX.out.below hb)
  replace y0 := below_cells hb _ _ y0
  replace y1 := below_cells hb _ _ y1
  replace y2 := below_cells hb _ _ y2
  replace y3 := below_cells hb _ _ y3
  have r0 : w6.cell? ⟨X + 1, 0, none⟩ = some (.int .u32 0) := cell_at HZ1.out
  have r1 : w6.cell? ⟨X + 1, 1, none⟩ = some (.slice none 0 0) := cell_at HZ1.out
  have r2 : w6.cell? ⟨X + 1, 2, none⟩ = some (.slice none 0 0) := cell_at HZ1.out
  have r3 : w6.cell? ⟨X + 1, 3, none⟩ = some (.int .u32 0) := cell_at HZ1.out
  have f0 : w6.frozen? ⟨X + 1, 0, none⟩ = false := free_at HZ1.out
  have f1 : w6.frozen? ⟨X + 1, 1, none⟩ = false := free_at HZ1.out
  have f2 : w6.frozen? ⟨X + 1, 2, none⟩ = false := free_at HZ1.out
  have f3 : w6.frozen? ⟨X + 1, 3, none⟩ = false := free_at HZ1.out
  clear hb HCK hck
  by_cases hc0 : ck = 0
  · subst hc0
    have HZ := Lib.hid (HQ6.out.trans (if_neg (by simp)))
    go_wp2_with fail
    exact bodyPost_ret (v := .tuple #[.agg #[.int .u32 2, .slice ia ni ic, .slice (some ⟨q, 0, none⟩) 1 1, .int .u32 t.lock], .int .i64 0]) (by simp [results, Tryz.results10, go_sem, r0, r1, r2, r3]) rfl (build_is HZ.out (((((HTX.out.store _ _ hl4).store _ _ hl4).store _ _ hl4).store _ _ hl4).low hsz2) (set4_zero HB6.out hX2 _ _ _ _))
  · have HZ := Lib.hid (HQ6.out.trans (if_pos hc0))
    have hne : (ck == 0) = false := by simpa using hc0
    go_wp2_with fail
    exact bodyPost_ret (v := .tuple #[.agg #[.int .u32 0, .slice none 0 0, .slice none 0 0, .int .u32 0], .int .i64 ck]) (by simp [results, Tryz.results10, go_sem, r0, r1, r2, r3]) rfl (build_is HZ.out (tx_zero _ _) (set4_zero HB6.out hX2 _ _ _ _))
end Go.Proofs.YtmakghcoehkphaaGreat
