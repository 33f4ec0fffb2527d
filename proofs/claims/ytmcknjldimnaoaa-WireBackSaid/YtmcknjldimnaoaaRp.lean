/-
  WireBack: the walk. Conditions: none.
-/
import Derived.Test.YtmcknjldimnaoaaRn
import Derived.Test.YtmcknjldimnaoaaWs
namespace Go.Proofs.Ytmcknjldimnaoaa
open Go.RowKit Go.BigFrame
set_option linter.unusedVariables false
set_option linter.unusedSimpArgs false

theorem bare_all (t : PTx) : bareTx t = setAll [] t := rfl
set_option maxRecDepth 100000 in
set_option maxHeartbeats 4000000 in
theorem wireBack_walk (v : Value) (t0 : PTx) (w : World) (hv : TxAt w v t0) : Calls Try.prog 10 #[v] w (BIs true w) := by
  have hv' := hv
  obtain ⟨va, vo, rfl, hia, hob, -, -⟩ := hv
  obtain ⟨a, c, rfl, -, -⟩ := hia.shape
  obtain ⟨a', c', rfl, -, -⟩ := hob.shape
  obtain ⟨l1, hl1⟩ : ∃ n, n = t0.ins.length := ⟨_, rfl⟩
  obtain ⟨l2, hl2⟩ : ∃ n, n = t0.outs.length := ⟨_, rfl⟩
  rw [← hl1, ← hl2] at hv' ⊢
  have HV := Lib.hid hv'
  clear hia hob hl1 hl2 hv'
  go_enter Try.func10, Try.ntmps10
  go_upto_region 1 with fail
  have hz := heap_alloc_new w (.cells #[.int .u32 t0.ver, .slice a l1 c, .slice a' l2 c', .int .u32 t0.lock] 26)
  have hal : Below w.heap.size w (w.alloc (.cells #[.int .u32 t0.ver, .slice a l1 c, .slice a' l2 c', .int .u32 t0.lock] 26)) := (Below.refl _ _).alloc (Nat.le_refl _) _
  obtain ⟨X, hX⟩ : ∃ q, q = w.heap.size := ⟨_, rfl⟩
  rw [← hX] at hz ⊢
  generalize w.alloc (.cells #[.int .u32 t0.ver, .slice a l1 c, .slice a' l2 c', .int .u32 t0.lock] 26) = w0 at *
  have p0 : w0.cell? ⟨X, 0, none⟩ = some (.int .u32 t0.ver) := cell_at hz
  have p1 : w0.cell? ⟨X, 1, none⟩ = some (.slice a l1 c) := cell_at hz
  have p2 : w0.cell? ⟨X, 2, none⟩ = some (.slice a' l2 c') := cell_at hz
  have p3 : w0.cell? ⟨X, 3, none⟩ = some (.int .u32 t0.lock) := cell_at hz
  have HB0 := Lib.hid hal
  have HV0 := Lib.hid (HV.out.below hal)
  clear hz hal hX HV
  go_wp2_with fail
  refine (fit_any _ t0 w0 HV0.out).mono ?_
  rintro en w1 ⟨vu, u, rfl, hown, hfit, hb⟩
  obtain ⟨⟨vi1, vo1, ps1, rfl, hp1, hi1, ho1, -⟩, -, -⟩ := id hown
  obtain ⟨ai, ci, e1, -, -⟩ := ownsRow_shape hi1.row
  obtain ⟨ao, co, e2, -, -⟩ := ownsRow_shape ho1.row
  obtain ⟨n1, hn1⟩ : ∃ n, n = ps1.length := ⟨_, rfl⟩
  obtain ⟨m1, hm1⟩ : ∃ n, n = u.outs.length := ⟨_, rfl⟩
  rw [← hn1] at e1
  rw [← hm1] at e2
  subst e1
  subst e2
  have HN1 := Lib.hid (show n1 = u.ins.length ∧ m1 = u.outs.length by rw [hp1, List.length_map]; exact ⟨hn1, hm1⟩)
  have HB1 := Lib.hid (HB0.out.trans (hb.mono HB0.out.size))
  have HOU := Lib.hid (show TxOwn w0.heap.size w1 (.agg #[.int .u32 u.ver, .slice ai n1 ci, .slice ao m1 co, .int .u32 u.lock]) u from hown)
  have HF := Lib.hid hfit
  have HS01 := Lib.hid (show w.heap.size ≤ w0.heap.size ∧ w0.heap.size ≤ w1.heap.size from ⟨HB0.out.size, hb.size⟩)
  clear hown hfit hi1 ho1 hp1 hn1 hm1 hb p0 p1 p2 p3 HV0 HB0
  go_upto_region 2 with fail
  have hz := heap_alloc_new w1 (.cells #[.int .u32 u.ver, .slice ai n1 ci, .slice ao m1 co, .int .u32 u.lock] 26)
  have hal : Below w1.heap.size w1 (w1.alloc (.cells #[.int .u32 u.ver, .slice ai n1 ci, .slice ao m1 co, .int .u32 u.lock] 26)) := (Below.refl _ _).alloc (Nat.le_refl _) _
  obtain ⟨A5, hA5⟩ : ∃ q, q = w1.heap.size := ⟨_, rfl⟩
  rw [← hA5] at hz ⊢
  generalize w1.alloc (.cells #[.int .u32 u.ver, .slice ai n1 ci, .slice ao m1 co, .int .u32 u.lock] 26) = w2 at *
  have u0 : w2.cell? ⟨A5, 0, none⟩ = some (.int .u32 u.ver) := cell_at hz
  have u1 : w2.cell? ⟨A5, 1, none⟩ = some (.slice ai n1 ci) := cell_at hz
  have u2 : w2.cell? ⟨A5, 2, none⟩ = some (.slice ao m1 co) := cell_at hz
  have u3 : w2.cell? ⟨A5, 3, none⟩ = some (.int .u32 u.lock) := cell_at hz
  have HB := Lib.hid (HB1.out.trans (hal.mono HB1.out.size))
  have HU := Lib.hid (HOU.out.tx.below hal)
  have H1 := Lib.hid hal
  have HA5 := Lib.hid hA5
  have HLT := Lib.hid (show A5 < w2.heap.size from (Array.getElem?_eq_some_iff.1 hz).1)
  clear hz hal hA5 HB1
  have HFL := Lib.hid (fit_len HF.out)
  have HNU := Lib.hid (tx_nums HU.out)
  by_cases h0 : checkOf u = 0
  rotate_left
  · have HE := Lib.hid (wenc_any _ u w2 HU.out HFL.out)
    have HE2 := Lib.hid (fun y h => wbare_any (.agg #[.int .u32 u.ver, .slice ai n1 ci, .slice ao m1 co, .int .u32 u.lock]) u y h HFL.out)
    obtain ⟨s1, hs1⟩ : ∃ s, s = encE u (witOf u) := ⟨_, rfl⟩
    obtain ⟨s2, hs2⟩ : ∃ s, s = encE u false := ⟨_, rfl⟩
    rw [← hs1] at HE
    rw [← hs2] at HE2
    clear hs1 hs2
    generalize checkOf u = ck at *
    have hne : (ck != 0) = true := by simpa using h0
    have hne2 : (ck == 0) = false := by simpa using h0
    go_wp2_with fail
    refine (HE.out).mono ?_
    rintro e w3 ⟨rfl, hb⟩
    replace u0 := below_cells hb _ _ u0
    replace u1 := below_cells hb _ _ u1
    replace u2 := below_cells hb _ _ u2
    replace u3 := below_cells hb _ _ u3
    have HB := Lib.hid (HB.out.trans (hb.mono HB.out.size))
    have HU := Lib.hid (HU.out.below hb)
    clear hb
    go_wp2_with fail
    refine (HE2.out w3 HU.out).mono ?_
    rintro e w4 ⟨rfl, hb⟩
    have HB := Lib.hid (HB.out.trans (hb.mono HB.out.size))
    clear hb
    go_wp2_with fail
    refine (wakes6_any w4).mono ?_
    rintro e w5 ⟨rfl, hb⟩
    have HB := Lib.hid (HB.out.trans (hb.mono HB.out.size))
    clear hb
    go_wp2_with fail
    go_ret
    exact ⟨rfl, HB.out⟩
  have hW := whole_of h0
  have hok := okP_of h0 HNU.out
  have hcu : checkOf (setAll [] u) = 0 := check_whole (all_whole ⟨by simp, by simp⟩ hW)
  obtain ⟨s1, hs1⟩ : ∃ s, s = encE u (witOf u) := ⟨_, rfl⟩
  obtain ⟨s2, hs2⟩ : ∃ s, s = encE u false := ⟨_, rfl⟩
  have e1 : s1 = bL (encL u (witOf u)) := hs1.trans (if_pos h0)
  have e2 : s2 = bL (encL u false) := hs2.trans (if_pos h0)
  have z1 : s1.size = (encL u (witOf u)).length := by rw [e1, bL_size]
  have z2 : s2.size = (encL u false).length := by rw [e2, bL_size]
  have hle : (s2.size : Int) ≤ (s1.size : Int) := by have := enc_more u; omega
  have hsz : s1.size ≤ 200000 := by rw [z1]; exact encL_le (enc_of hW) _
  have d1 : decZ s1.data.toList = (u, s1.size, 0) := by rw [e1, bL_list, dec_back hok h0, bL_size]
  have d2 : decZ s2.data.toList = (bareTx u, s2.size, 0) := by rw [e2, bL_list, dec_bare hok hcu, bL_size]
  have hq1 := fun y => decode_any s1 y (by omega)
  have hq2 := fun y => decode_any s2 y (by omega)
  rw [d1] at hq1
  rw [d2] at hq2
  have HQ1 := Lib.hid hq1
  have HQ2 := Lib.hid hq2
  have HE := Lib.hid (wenc_any _ u w2 HU.out HFL.out)
  have HE2 := Lib.hid (fun y h => wbare_any (.agg #[.int .u32 u.ver, .slice ai n1 ci, .slice ao m1 co, .int .u32 u.lock]) u y h HFL.out)
  rw [← hs1, h0] at HE
  rw [← hs2, h0] at HE2
  have HS0 := Lib.hid (fun (v v' : Value) (y : World) (h1 : TxAt y v u) (h2 : TxAt y v' u) => (same_yes (t := u) (u := u) rfl ▸ same_any v v' u u y h1 h2 : Calls Try.prog 30 #[v, v'] y (BIs true y)))
  have HS1 := Lib.hid (fun (v v' : Value) (y : World) (h1 : TxAt y v (setAll [] u)) (h2 : TxAt y v' (bareTx u)) => (same_yes (bare_all u).symm ▸ same_any v v' (setAll [] u) (bareTx u) y h1 h2 : Calls Try.prog 30 #[v, v'] y (BIs true y)))
  clear hs1 hs2 e1 e2 z1 z2 d1 d2 hq1 hq2 hW hok hcu h0 hsz
  go_wp2_with fail
  refine (HE.out).mono ?_
  rintro e w3 ⟨rfl, hb⟩
  replace u0 := below_cells hb _ _ u0
  replace u1 := below_cells hb _ _ u1
  replace u2 := below_cells hb _ _ u2
  replace u3 := below_cells hb _ _ u3
  have HB := Lib.hid (HB.out.trans (hb.mono HB.out.size))
  have HU := Lib.hid (HU.out.below hb)
  have H1 := Lib.hid (H1.out.trans (hb.mono H1.out.size))
  clear hb
  go_wp2_with fail
  refine (HE2.out w3 HU.out).mono ?_
  rintro e w4 ⟨rfl, hb⟩
  replace u0 := below_cells hb _ _ u0
  replace u1 := below_cells hb _ _ u1
  replace u2 := below_cells hb _ _ u2
  replace u3 := below_cells hb _ _ u3
  have HB := Lib.hid (HB.out.trans (hb.mono HB.out.size))
  have HU := Lib.hid (HU.out.below hb)
  have H1 := Lib.hid (H1.out.trans (hb.mono H1.out.size))
  clear hb
  go_wp2_with fail
  refine (HQ1.out w4).mono ?_
  rintro e w5 ⟨v5, rfl, hown, hb⟩
  have htx := hown.tx
  obtain ⟨va, vo, rfl, ha, ho, -, -⟩ := id htx
  obtain ⟨a3, c3, rfl, -, -⟩ := ha.shape
  obtain ⟨a4, c4, rfl, -, -⟩ := ho.shape
  rw [← HN1.out.1, ← HN1.out.2] at htx ⊢
  have HT5 := Lib.hid htx
  replace u0 := below_cells hb _ _ u0
  replace u1 := below_cells hb _ _ u1
  replace u2 := below_cells hb _ _ u2
  replace u3 := below_cells hb _ _ u3
  have HB := Lib.hid (HB.out.trans (hb.mono HB.out.size))
  have HU := Lib.hid (HU.out.below hb)
  have H1 := Lib.hid (H1.out.trans (hb.mono H1.out.size))
  clear hb hown ha ho htx HQ1
  go_upto_region 7 with fail
  have hz := heap_alloc_new w5 (.cells #[.int .u32 u.ver, .slice a3 n1 c3, .slice a4 m1 c4, .int .u32 u.lock] 26)
  have hal : Below w5.heap.size w5 (w5.alloc (.cells #[.int .u32 u.ver, .slice a3 n1 c3, .slice a4 m1 c4, .int .u32 u.lock] 26)) := (Below.refl _ _).alloc (Nat.le_refl _) _
  obtain ⟨A8, hA8⟩ : ∃ q, q = w5.heap.size := ⟨_, rfl⟩
  rw [← hA8] at hz ⊢
  generalize w5.alloc (.cells #[.int .u32 u.ver, .slice a3 n1 c3, .slice a4 m1 c4, .int .u32 u.lock] 26) = w6 at *
  have q0 : w6.cell? ⟨A8, 0, none⟩ = some (.int .u32 u.ver) := cell_at hz
  have q1 : w6.cell? ⟨A8, 1, none⟩ = some (.slice a3 n1 c3) := cell_at hz
  have q2 : w6.cell? ⟨A8, 2, none⟩ = some (.slice a4 m1 c4) := cell_at hz
  have q3 : w6.cell? ⟨A8, 3, none⟩ = some (.int .u32 u.lock) := cell_at hz
  have hb := hal
  replace u0 := below_cells hb _ _ u0
  replace u1 := below_cells hb _ _ u1
  replace u2 := below_cells hb _ _ u2
  replace u3 := below_cells hb _ _ u3
  have HB := Lib.hid (HB.out.trans (hb.mono HB.out.size))
  have HU := Lib.hid (HU.out.below hb)
  have H1 := Lib.hid (H1.out.trans (hb.mono H1.out.size))
  have HT5 := Lib.hid (HT5.out.below hb)
  clear hz hal hA8 hb
  have HL6 := Lib.hid (Nat.le_refl w6.heap.size)
  go_wp2_with fail
  refine (HQ2.out w6).mono ?_
  rintro e w7 ⟨v7, rfl, hown, hb⟩
  have htx := hown.tx
  obtain ⟨va, vo, rfl, ha, ho, -, -⟩ := id htx
  obtain ⟨a5, c5, rfl, -, -⟩ := ha.shape
  obtain ⟨a6, c6, rfl, -, -⟩ := ho.shape
  have hbn : (bareTx u).ins.length = n1 := by rw [HN1.out.1]; show (u.ins.map bareIn).length = _; rw [List.length_map]
  have hbm : (bareTx u).outs.length = m1 := HN1.out.2.symm
  have hbv : (bareTx u).ver = u.ver := rfl
  have hbk : (bareTx u).lock = u.lock := rfl
  rw [hbn, hbm, hbv, hbk] at hown ⊢
  have HO7 := Lib.hid hown
  have HLE := Lib.hid (show w1.heap.size ≤ w6.heap.size from H1.out.size)
  have HS67 := Lib.hid hb.size
  replace u0 := below_cells hb _ _ u0
  replace u1 := below_cells hb _ _ u1
  replace u2 := below_cells hb _ _ u2
  replace u3 := below_cells hb _ _ u3
  replace q0 := below_cells hb _ _ q0
  replace q1 := below_cells hb _ _ q1
  replace q2 := below_cells hb _ _ q2
  replace q3 := below_cells hb _ _ q3
  have HB := Lib.hid (HB.out.trans (hb.mono HB.out.size))
  have HU := Lib.hid (HU.out.below hb)
  have H1 := Lib.hid (H1.out.trans (hb.mono H1.out.size))
  have HT5 := Lib.hid (HT5.out.below hb)
  clear hb hown ha ho htx HQ2 hbn hbm hbv hbk HL6
  go_upto_region 8 with fail
  have hz := heap_alloc_new w7 (.cells #[.int .u32 u.ver, .slice a5 n1 c5, .slice a6 m1 c6, .int .u32 u.lock] 26)
  have hal : Below w7.heap.size w7 (w7.alloc (.cells #[.int .u32 u.ver, .slice a5 n1 c5, .slice a6 m1 c6, .int .u32 u.lock] 26)) := (Below.refl _ _).alloc (Nat.le_refl _) _
  obtain ⟨A11, hA11⟩ : ∃ q, q = w7.heap.size := ⟨_, rfl⟩
  rw [← hA11] at hz ⊢
  generalize w7.alloc (.cells #[.int .u32 u.ver, .slice a5 n1 c5, .slice a6 m1 c6, .int .u32 u.lock] 26) = w8 at *
  have HZ := Lib.hid hz
  have hb := hal
  replace u0 := below_cells hb _ _ u0
  replace u1 := below_cells hb _ _ u1
  replace u2 := below_cells hb _ _ u2
  replace u3 := below_cells hb _ _ u3
  replace q0 := below_cells hb _ _ q0
  replace q1 := below_cells hb _ _ q1
  replace q2 := below_cells hb _ _ q2
  replace q3 := below_cells hb _ _ q3
  have HB := Lib.hid (HB.out.trans (hb.mono HB.out.size))
  have HU := Lib.hid (HU.out.below hb)
  have H1 := Lib.hid (H1.out.trans (hb.mono H1.out.size))
  have HT5 := Lib.hid (HT5.out.below hb)
  have HO8 := Lib.hid (HO7.out.below hal)
  have HAL := Lib.hid (show w6.heap.size ≤ A11 from by rw [hA11]; exact HS67.out)
  clear hz hal hA11 hb HO7
  have HNM := Lib.hid (show A5 = w1.heap.size ∧ A5 < w8.heap.size from ⟨HA5.out, World.block_lt_of_cell? w8 _ u0⟩)
  go_wp2_with fail
  refine (wakes6_any w8).mono ?_
  rintro e w9 ⟨rfl, hb⟩
  have HZ := Lib.hid ((hb.block A11 (Array.getElem?_eq_some_iff.1 HZ.out).1).trans HZ.out)
  replace u0 := below_cells hb _ _ u0
  replace u1 := below_cells hb _ _ u1
  replace u2 := below_cells hb _ _ u2
  replace u3 := below_cells hb _ _ u3
  replace q0 := below_cells hb _ _ q0
  replace q1 := below_cells hb _ _ q1
  replace q2 := below_cells hb _ _ q2
  replace q3 := below_cells hb _ _ q3
  have HB := Lib.hid (HB.out.trans (hb.mono HB.out.size))
  have HU := Lib.hid (HU.out.below hb)
  have H1 := Lib.hid (H1.out.trans (hb.mono H1.out.size))
  have HT5 := Lib.hid (HT5.out.below hb)
  have HO8 := Lib.hid (HO8.out.below hb)
  clear hb
  go_wp2_with fail
  refine (HS0.out _ _ w9 HU.out HT5.out).mono ?_
  rintro e w10 ⟨rfl, hb⟩
  have HZ := Lib.hid ((hb.block A11 (Array.getElem?_eq_some_iff.1 HZ.out).1).trans HZ.out)
  replace u0 := below_cells hb _ _ u0
  replace u1 := below_cells hb _ _ u1
  replace u2 := below_cells hb _ _ u2
  replace u3 := below_cells hb _ _ u3
  have HB := Lib.hid (HB.out.trans (hb.mono HB.out.size))
  have H1 := Lib.hid (H1.out.trans (hb.mono H1.out.size))
  have HO8 := Lib.hid (HO8.out.below hb)
  clear hb q0 q1 q2 q3 HS0
  have hvu : VS w0.heap.size w1.heap.size (.slice ai n1 ci) (.slice ao m1 co) u w10 (doneW [] 0 u.ins) w10 := by
    rw [doneW_zero]
    exact VS.later HOU.out (fun b _ hlb => H1.out.block b hlb) H1.out.size
  have HVU := Lib.hid hvu
  have hn8 : n1 ≤ 8 := by have := HN1.out.1; have := HF.out.few.1; omega
  clear hvu
  go_wp2_with fail
  go_loopg [82] n1 (fun g vi wr => ∃ j : Nat, g = n1 - j ∧ j ≤ n1 ∧ vi = .int .i64 j ∧ VS w0.heap.size w1.heap.size (.slice ai n1 ci) (.slice ao m1 co) u w10 (doneW [] j u.ins) wr)
  case atStart => exact ⟨0, rfl, by omega, rfl, HVU.out⟩
  case round =>
    clear HVU
    rename World => wr
    obtain ⟨j, hgj, hj, rfl, hvs⟩ := hrel
    have HGJ := Lib.hid hgj
    have HVU := Lib.hid hvs
    clear hgj hvs
    have r1 : wr.cell? ⟨A5, 1, none⟩ = some (.slice ai n1 ci) := HVU.out.cell (by have := HNM.out; omega) u1
    by_cases hlt : j < n1
    · obtain ⟨x, hx⟩ : ∃ x, u.ins[j]? = some x := ⟨_, List.getElem?_eq_getElem (by have := HN1.out.1; omega)⟩
      obtain ⟨b, wv, c9, e9, -, -, hs⟩ := HVU.out.slot (doneW_at (W := []) hx)
      rw [doneW_len, ← HN1.out.1] at e9
      obtain ⟨rfl, rfl⟩ : ai = some ⟨b, 0, none⟩ ∧ ci = c9 := by simpa using e9
      have hput := hs.put [] (.slice none 0 0) wr (fun _ _ _ => rfl) (Below.refl _ _) (Nat.le_refl _) (World.ownsRow_nil _ _ _ _) (fun s hs => by simp at hs) (.inr (.inl rfl))
      have hput2 := doneW_set (W := []) hx ▸ hput
      have HP := Lib.hid hput2
      have d3 := hs.cell
      have g3 := hs.free
      clear e9 hx hs HVU hput hput2
      go_wp2_with fail
      go_roundg (n1 - (j + 1))
      case measure => have := HGJ.out; omega
      case rel => exact ⟨j + 1, rfl, by omega, by go_num, HP.out⟩
    · obtain rfl : j = n1 := by omega
      have hvs2 := HVU.out
      rw [doneW_all (by have := HN1.out.1; omega)] at hvs2
      have HTU := Lib.hid (show TxAt wr (.agg #[.int .u32 u.ver, .slice ai j ci, .slice ao m1 co, .int .u32 u.lock]) (setAll [] u) from hvs2.tx)
      have hk2 : ∀ b, w6.heap.size ≤ b → b < w10.heap.size → wr.heap[b]? = w10.heap[b]? := fun b hb1 hb2 => HVU.out.keep b hb2 (by have := HLE.out; omega)
      have HTV := Lib.hid ((HO8.out.kept' hk2).tx)
      have HB := Lib.hid (HB.out.trans (HVU.out.bel.mono HS01.out.1))
      replace u0 := HVU.out.cell (by have := HNM.out; omega) u0
      replace u2 := HVU.out.cell (by have := HNM.out; omega) u2
      replace u3 := HVU.out.cell (by have := HNM.out; omega) u3
      replace u1 := r1
      have hz := (hk2 A11 HAL.out (Array.getElem?_eq_some_iff.1 HZ.out).1).trans HZ.out
      have v0 : wr.cell? ⟨A11, 0, none⟩ = some (.int .u32 u.ver) := cell_at hz
      have v1 : wr.cell? ⟨A11, 1, none⟩ = some (.slice a5 j c5) := cell_at hz
      have v2 : wr.cell? ⟨A11, 2, none⟩ = some (.slice a6 m1 c6) := cell_at hz
      have v3 : wr.cell? ⟨A11, 3, none⟩ = some (.int .u32 u.lock) := cell_at hz
      clear r1 hz hk2 hvs2 HVU H1
      go_wp2_with fail
      refine (HS1.out _ _ wr HTU.out HTV.out).mono ?_
      rintro e w11 ⟨rfl, hb⟩
      have HB := Lib.hid (HB.out.trans (hb.mono HB.out.size))
      clear hb
      go_wp2_with fail
      go_ret
      exact ⟨rfl, HB.out⟩
end Go.Proofs.Ytmcknjldimnaoaa
