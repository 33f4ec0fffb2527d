/-
  IdentPays: the walk. Conditions: none.
-/
import Derived.Test.YtmcknjldimnaoaaIc
import Derived.Test.YtmcknjldimnaoaaTxTwo
namespace Go.Proofs.Ytmcknjldimnaoaa
open Go.RowKit Go.BigFrame
set_option linter.unusedVariables false
set_option linter.unusedSimpArgs false

set_option maxRecDepth 100000 in
set_option maxHeartbeats 4000000 in
theorem identPays_walk (v : Value) (t : PTx) (ix : Int) (w : World) (hv : TxAt w v t) (hx : (Lit.int .i64 ix).wf = true) : Calls Try.prog 3 #[v, .int .i64 ix] w (BIs true w) := by
  obtain ⟨hx1, hx2⟩ : -9223372036854775808 ≤ ix ∧ ix ≤ 9223372036854775807 := by
    simp [Lit.wf, IntKind.min, IntKind.max, IntKind.signed, IntKind.bits] at hx
    omega
  clear hx
  obtain ⟨va, vo, rfl, hia, hob, hv1, hv2⟩ := hv
  obtain ⟨a, c, rfl, hl1, hl2⟩ := hia.shape
  obtain ⟨a', c', rfl, hl1', hl2'⟩ := hob.shape
  have htb := TB.start (t := t) hia hob
  have HTB := Lib.hid htb
  have HV := Lib.hid (And.intro hv1 hv2)
  clear htb hia hob hv1 hv2 hl1 hl2 hl1' hl2'
  obtain ⟨n, hn⟩ : ∃ n, n = t.ins.length := ⟨_, rfl⟩
  obtain ⟨n', hn'⟩ : ∃ n, n = t.outs.length := ⟨_, rfl⟩
  rw [← hn, ← hn'] at HTB
  rw [← hn, ← hn']
  clear hn hn'
  go_enter Try.func3, Try.ntmps3
  go_upto_region 1 with fail
  generalize w.alloc (.cells #[.int .u32 t.ver, .slice a n c, .slice a' n' c', .int .u32 t.lock] 26) = w0 at *
  have c0 : w0.cell? ⟨w.heap.size, 0, none⟩ = some (.int .u32 t.ver) := cell_at HTB.out.box
  have c1 : w0.cell? ⟨w.heap.size, 1, none⟩ = some (.slice a n c) := cell_at HTB.out.box
  have c2 : w0.cell? ⟨w.heap.size, 2, none⟩ = some (.slice a' n' c') := cell_at HTB.out.box
  have c3 : w0.cell? ⟨w.heap.size, 3, none⟩ = some (.int .u32 t.lock) := cell_at HTB.out.box
  go_wp2_with fail
  refine (fit_any _ t w0 (HTB.out.tx HV.out)).mono ?_
  rintro e w1 ⟨v1, u, rfl, hown, hfit, hb⟩
  have HB := Lib.hid (HTB.out.bel.trans (hb.mono HTB.out.bel.size))
  have htx := hown.tx
  have HUL := Lib.hid (fitted_len hfit)
  obtain ⟨va, vo, rfl, ha, ho, -, -⟩ := id htx
  obtain ⟨a1, c4, rfl, -, hk1⟩ := ha.shape
  obtain ⟨a2, c5, rfl, -, hk2⟩ := ho.shape
  obtain ⟨p, hp⟩ : ∃ n, n = u.ins.length := ⟨_, rfl⟩
  obtain ⟨q, hq⟩ : ∃ n, n = u.outs.length := ⟨_, rfl⟩
  rw [← hp, ← hq] at htx ⊢
  have HTX := Lib.hid htx
  have HQ := Lib.hid hq
  have hq1 : q ≤ 1000 := by rw [hq]; exact HUL.out
  clear htx hown hfit hb ha ho hk1 hk2 hp hq c0 c1 c2 c3 HTB HV
  go_upto_region 2 with fail
  have hz := heap_alloc_new w1 (.cells #[.int .u32 u.ver, .slice a1 p c4, .slice a2 q c5, .int .u32 u.lock] 26)
  have hal : Below w1.heap.size w1 (w1.alloc (.cells #[.int .u32 u.ver, .slice a1 p c4, .slice a2 q c5, .int .u32 u.lock] 26)) := (Below.refl _ _).alloc (Nat.le_refl _) _
  obtain ⟨X, hX⟩ : ∃ q, q = w1.heap.size := ⟨_, rfl⟩
  rw [← hX] at hz ⊢
  generalize w1.alloc (.cells #[.int .u32 u.ver, .slice a1 p c4, .slice a2 q c5, .int .u32 u.lock] 26) = w2 at *
  have HTX := Lib.hid (HTX.out.below hal)
  have HB := Lib.hid (HB.out.trans (hal.mono HB.out.size))
  have d0 : w2.cell? ⟨X, 0, none⟩ = some (.int .u32 u.ver) := cell_at hz
  have d1 : w2.cell? ⟨X, 1, none⟩ = some (.slice a1 p c4) := cell_at hz
  have d2 : w2.cell? ⟨X, 2, none⟩ = some (.slice a2 q c5) := cell_at hz
  have d3 : w2.cell? ⟨X, 3, none⟩ = some (.int .u32 u.lock) := cell_at hz
  clear hz hal hX
  by_cases hc : checkOf u = 0
  · have HCC := Lib.hid (rcheck_any _ u w2 HTX.out HUL.out)
    rw [hc] at HCC
    have HC0 := Lib.hid hc
    clear hc
    go_wp2_with fail
    refine (HCC.out).mono ?_
    rintro e w3 ⟨rfl, hb⟩
    replace d0 := below_cells hb _ _ d0
    replace d1 := below_cells hb _ _ d1
    replace d2 := below_cells hb _ _ d2
    replace d3 := below_cells hb _ _ d3
    have HB := Lib.hid (HB.out.trans (hb.mono HB.out.size))
    have HTX := Lib.hid (HTX.out.below hb)
    clear hb
    go_upto_region 4 with fail
    have hm0 : 0 ≤ max 0 ix % 10 := Int.emod_nonneg _ (by decide)
    have hm1 : max 0 ix % 10 < 10 := Int.emod_lt_of_pos _ (by decide)
    generalize max 0 ix % 10 = jx at *
    have hz := heap_alloc_new w3 (.cells #[.int .i64 ix, .int .i64 jx] 3)
    have hal : Below w3.heap.size w3 (w3.alloc (.cells #[.int .i64 ix, .int .i64 jx] 3)) := (Below.refl _ _).alloc (Nat.le_refl _) _
    obtain ⟨L, hL⟩ : ∃ q, q = w3.heap.size := ⟨_, rfl⟩
    rw [← hL] at hz ⊢
    generalize w3.alloc (.cells #[.int .i64 ix, .int .i64 jx] 3) = w4 at *
    have HTX := Lib.hid (HTX.out.below hal)
    have HB := Lib.hid (HB.out.trans (hal.mono HB.out.size))
    have hrow : ∀ k : Nat, k < 2 → ∃ iv : Int, w4.cell? ⟨L, k, none⟩ = some (.int .i64 iv) ∧ -9223372036854775808 ≤ iv ∧ iv ≤ 9223372036854775807 := by
      intro k hk
      match k, hk with
      | 0, _ => exact ⟨ix, cell_at hz, hx1, hx2⟩
      | 1, _ => exact ⟨jx, cell_at hz, by omega, by omega⟩
    have HROW := Lib.hid hrow
    have D0 := Lib.hid (below_cells hal _ _ d0)
    have D1 := Lib.hid (below_cells hal _ _ d1)
    have D2 := Lib.hid (below_cells hal _ _ d2)
    have D3 := Lib.hid (below_cells hal _ _ d3)
    clear hrow hz hal hL d0 d1 d2 d3 hx1 hx2 hm0 hm1
    go_loopg [22] 2 (fun g i wr => ∃ k : Nat, g = 2 - k ∧ k ≤ 2 ∧ i = .int .i64 k ∧ Below w4.heap.size w4 wr)
    case atStart => exact ⟨0, rfl, by omega, rfl, Below.refl _ _⟩
    case round =>
      rename World => wo
      obtain ⟨k, hgk, hk, rfl, hbo⟩ := hrel
      have HGK := Lib.hid hgk
      have HTX := Lib.hid (HTX.out.below hbo)
      have HB := Lib.hid (HB.out.trans (hbo.mono HB.out.size))
      have HBO := Lib.hid hbo
      clear hgk hbo
      by_cases hlt : k < 2
      · obtain ⟨iv, hcell, hi1, hi2⟩ := HROW.out k hlt
        have d0 := below_cells HBO.out _ _ D0.out
        have d1 := below_cells HBO.out _ _ D1.out
        have d2 := below_cells HBO.out _ _ D2.out
        have d3 := below_cells HBO.out _ _ D3.out
        replace hcell := below_cells HBO.out _ _ hcell
        have hlo : (0 : Int) ≤ (k : Int) := by omega
        have hhi : (k : Int) < 2 := by omega
        have HPAY := Lib.hid (ipays_any _ u iv wo HTX.out HUL.out hi1 hi2)
        have hgp := guardPt
        have hpc : payC u iv = if iv < 0 ∨ (u.outs.length : Int) ≤ iv then 2 else 0 := if_pos HC0.out
        rw [← HQ.out] at hpc
        by_cases hi0 : iv < 0
        · have hpc2 : payC u iv = 2 := hpc.trans (if_pos (.inl hi0))
          have HPAY := Lib.hid (ipays_err _ u iv wo HTX.out HUL.out hi1 hi2 hpc2 (by decide))
          clear hpc hpc2
          go_wp2_with fail
          refine (HPAY.out).mono ?_
          rintro e w5 ⟨rfl, hb⟩
          replace d0 := below_cells hb _ _ d0
          replace d1 := below_cells hb _ _ d1
          replace d2 := below_cells hb _ _ d2
          replace d3 := below_cells hb _ _ d3
          have HBO := Lib.hid (HBO.out.trans (hb.mono HBO.out.size))
          have HB := Lib.hid (HB.out.trans (hb.mono HB.out.size))
          have HTX := Lib.hid (HTX.out.below hb)
          clear hb
          go_upto_region 7 with fail
          have hz := heap_alloc_new w5 (.cells #[.string ⟨#[]⟩, .int .u32 0] 31)
          have hal : Below w5.heap.size w5 (w5.alloc (.cells #[.string ⟨#[]⟩, .int .u32 0] 31)) := (Below.refl _ _).alloc (Nat.le_refl _) _
          obtain ⟨P, hP⟩ : ∃ q, q = w5.heap.size := ⟨_, rfl⟩
          rw [← hP] at hz ⊢
          generalize w5.alloc (.cells #[.string ⟨#[]⟩, .int .u32 0] 31) = w6 at *
          replace d0 := below_cells hal _ _ d0
          replace d1 := below_cells hal _ _ d1
          replace d2 := below_cells hal _ _ d2
          replace d3 := below_cells hal _ _ d3
          have HTX := Lib.hid (HTX.out.below hal)
          have HBO := Lib.hid (HBO.out.trans (hal.mono HBO.out.size))
          have e0 : w6.cell? ⟨P, 0, none⟩ = some (.string ⟨#[]⟩) := cell_at hz
          have e1 : w6.cell? ⟨P, 1, none⟩ = some (.int .u32 0) := cell_at hz
          clear hz hal hP
          have heq : ∀ w : World, (Op.equalIn 10000 31 (.agg #[.string ⟨#[]⟩, .int .u32 0]) (.agg #[.string ⟨#[]⟩, .int .u32 0])).run Try.prog w = .ok true w := fun w => by have := eqIn_pt (⟨#[]⟩, 0) (⟨#[]⟩, 0) w; rw [decide_eq_true rfl] at this; exact this
          go_wp2_with fail
          obtain ⟨C, hC⟩ : ∃ C : World → Prop, C = fun w' => Below w6.heap.size w6 w' := ⟨_, rfl⟩
          have kd0 := kin_cell hC d0
          have kd1 := kin_cell hC d1
          have kd2 := kin_cell hC d2
          have kd3 := kin_cell hC d3
          have ke0 := kin_cell hC e0
          have ke1 := kin_cell hC e1
          have HC := Lib.hid hC
          clear hC
          refine wp_region_kin C (by kernel_rfl) (by kernel_rfl) (by rw [HC.out]; exact ⟨rfl, rfl, rfl, Nat.le_refl _, fun _ _ => rfl⟩) ?_
          intro hne
          repeat (first | (go_big_quiet_step (fail)) | (quiet_step (fail)))
          refine wpQuiet_nil ?_
          intro _ hw'
          obtain ⟨kx, hw''⟩ := hw'
          subst hw''
          obtain ⟨w7, hxc⟩ := kx
          rw [HC.out] at hxc
          clear HC hne kd0 kd1 kd2 kd3 ke0 ke1
          have HBO := Lib.hid (HBO.out.trans (hxc.mono HBO.out.size))
          clear hxc
          go_wp2_with fail
          go_roundg (2 - (k + 1))
          case measure => have := HGK.out; omega
          case rel => exact ⟨k + 1, rfl, by omega, by go_num, HBO.out⟩
        · obtain ⟨j, rfl⟩ : ∃ j : Nat, iv = j := ⟨iv.toNat, by omega⟩
          clear hi0
          by_cases hjq : q ≤ j
          · have hpc2 : payC u j = 2 := hpc.trans (if_pos (.inr (by omega)))
            have HPAY := Lib.hid (ipays_err _ u j wo HTX.out HUL.out hi1 hi2 hpc2 (by decide))
            have hjq2 : (q : Int) ≤ (j : Int) := by omega
            have hj0 : (0 : Int) ≤ (j : Int) := by omega
            clear hpc hpc2
            go_wp2_with fail
            refine (HPAY.out).mono ?_
            rintro e w5 ⟨rfl, hb⟩
            replace d0 := below_cells hb _ _ d0
            replace d1 := below_cells hb _ _ d1
            replace d2 := below_cells hb _ _ d2
            replace d3 := below_cells hb _ _ d3
            have HBO := Lib.hid (HBO.out.trans (hb.mono HBO.out.size))
            have HB := Lib.hid (HB.out.trans (hb.mono HB.out.size))
            have HTX := Lib.hid (HTX.out.below hb)
            clear hb
            go_upto_region 7 with fail
            have hz := heap_alloc_new w5 (.cells #[.string ⟨#[]⟩, .int .u32 0] 31)
            have hal : Below w5.heap.size w5 (w5.alloc (.cells #[.string ⟨#[]⟩, .int .u32 0] 31)) := (Below.refl _ _).alloc (Nat.le_refl _) _
            obtain ⟨P, hP⟩ : ∃ q, q = w5.heap.size := ⟨_, rfl⟩
            rw [← hP] at hz ⊢
            generalize w5.alloc (.cells #[.string ⟨#[]⟩, .int .u32 0] 31) = w6 at *
            replace d0 := below_cells hal _ _ d0
            replace d1 := below_cells hal _ _ d1
            replace d2 := below_cells hal _ _ d2
            replace d3 := below_cells hal _ _ d3
            have HTX := Lib.hid (HTX.out.below hal)
            have HBO := Lib.hid (HBO.out.trans (hal.mono HBO.out.size))
            have e0 : w6.cell? ⟨P, 0, none⟩ = some (.string ⟨#[]⟩) := cell_at hz
            have e1 : w6.cell? ⟨P, 1, none⟩ = some (.int .u32 0) := cell_at hz
            clear hz hal hP
            have heq : ∀ w : World, (Op.equalIn 10000 31 (.agg #[.string ⟨#[]⟩, .int .u32 0]) (.agg #[.string ⟨#[]⟩, .int .u32 0])).run Try.prog w = .ok true w := fun w => by have := eqIn_pt (⟨#[]⟩, 0) (⟨#[]⟩, 0) w; rw [decide_eq_true rfl] at this; exact this
            go_wp2_with fail
            obtain ⟨C, hC⟩ : ∃ C : World → Prop, C = fun w' => Below w6.heap.size w6 w' := ⟨_, rfl⟩
            have kd0 := kin_cell hC d0
            have kd1 := kin_cell hC d1
            have kd2 := kin_cell hC d2
            have kd3 := kin_cell hC d3
            have ke0 := kin_cell hC e0
            have ke1 := kin_cell hC e1
            have HC := Lib.hid hC
            clear hC
            refine wp_region_kin C (by kernel_rfl) (by kernel_rfl) (by rw [HC.out]; exact ⟨rfl, rfl, rfl, Nat.le_refl _, fun _ _ => rfl⟩) ?_
            intro hne
            repeat (first | (go_big_quiet_step (fail)) | (quiet_step (fail)))
            refine wpQuiet_nil ?_
            intro _ hw'
            obtain ⟨kx, hw''⟩ := hw'
            subst hw''
            obtain ⟨w7, hxc⟩ := kx
            rw [HC.out] at hxc
            clear HC hne kd0 kd1 kd2 kd3 ke0 ke1
            have HBO := Lib.hid (HBO.out.trans (hxc.mono HBO.out.size))
            clear hxc
            go_wp2_with fail
            go_roundg (2 - (k + 1))
            case measure => have := HGK.out; omega
            case rel => exact ⟨k + 1, rfl, by omega, by go_num, HBO.out⟩
          · have hpc2 : payC u j = 0 := hpc.trans (if_neg (by omega))
            rw [hpc2, (pays_ok hpc2).1, (pays_ok hpc2).2, Int.toNat_natCast] at HPAY
            have hjq2 : (j : Int) < (q : Int) := by omega
            have hj0 : (0 : Int) ≤ (j : Int) := by omega
            have hj1 : (j : Int) ≤ 1000 := by omega
            obtain ⟨s, hs⟩ : ∃ s, s = tw (encL u false) := ⟨_, rfl⟩
            rw [← hs] at HPAY
            have HS := Lib.hid hs
            clear hpc hpc2 hs
            go_wp2_with fail
            refine (HPAY.out).mono ?_
            rintro e w5 ⟨rfl, hb⟩
            replace d0 := below_cells hb _ _ d0
            replace d1 := below_cells hb _ _ d1
            replace d2 := below_cells hb _ _ d2
            replace d3 := below_cells hb _ _ d3
            have HBO := Lib.hid (HBO.out.trans (hb.mono HBO.out.size))
            have HB := Lib.hid (HB.out.trans (hb.mono HB.out.size))
            have HTX := Lib.hid (HTX.out.below hb)
            clear hb
            go_upto_region 7 with fail
            have hz := heap_alloc_new w5 (.cells #[.string s, .int .u32 j] 31)
            have hal : Below w5.heap.size w5 (w5.alloc (.cells #[.string s, .int .u32 j] 31)) := (Below.refl _ _).alloc (Nat.le_refl _) _
            obtain ⟨P, hP⟩ : ∃ q, q = w5.heap.size := ⟨_, rfl⟩
            rw [← hP] at hz ⊢
            generalize w5.alloc (.cells #[.string s, .int .u32 j] 31) = w6 at *
            replace d0 := below_cells hal _ _ d0
            replace d1 := below_cells hal _ _ d1
            replace d2 := below_cells hal _ _ d2
            replace d3 := below_cells hal _ _ d3
            have HTX := Lib.hid (HTX.out.below hal)
            have HBO := Lib.hid (HBO.out.trans (hal.mono HBO.out.size))
            have e0 : w6.cell? ⟨P, 0, none⟩ = some (.string s) := cell_at hz
            have e1 : w6.cell? ⟨P, 1, none⟩ = some (.int .u32 j) := cell_at hz
            clear hz hal hP
            go_wp2_with fail
            have HID := Lib.hid (fun (y : World) (h : Below w6.heap.size w6 y) => rid_any _ u y (HTX.out.below h) HC0.out)
            rw [← HS.out] at HID
            obtain ⟨C, hC⟩ : ∃ C : World → Prop, C = fun w' => Below w6.heap.size w6 w' := ⟨_, rfl⟩
            have kd0 := kin_cell hC d0
            have kd1 := kin_cell hC d1
            have kd2 := kin_cell hC d2
            have kd3 := kin_cell hC d3
            have ke0 := kin_cell hC e0
            have ke1 := kin_cell hC e1
            have QR := Lib.hid (kin_call hC fun y h => HID.out y h)
            have HC := Lib.hid hC
            clear hC
            refine wp_region_kin C (by kernel_rfl) (by kernel_rfl) (by rw [HC.out]; exact ⟨rfl, rfl, rfl, Nat.le_refl _, fun _ _ => rfl⟩) ?_
            intro hne
            repeat (first | (go_big_quiet_step ((rename_i y; go_at_call 15; exact Calls.kin (QR.out y) (fun w' h => h)))) | (quiet_step ((rename_i y; go_at_call 15; exact Calls.kin (QR.out y) (fun w' h => h)))))
            refine wpQuiet_nil ?_
            intro _ hw'
            obtain ⟨kx, hw''⟩ := hw'
            subst hw''
            obtain ⟨w7, hxc⟩ := kx
            rw [HC.out] at hxc
            clear HC hne kd0 kd1 kd2 kd3 ke0 ke1
            have HBO := Lib.hid (HBO.out.trans (hxc.mono HBO.out.size))
            clear hxc
            go_wp2_with fail
            go_roundg (2 - (k + 1))
            case measure => have := HGK.out; omega
            case rel => exact ⟨k + 1, rfl, by omega, by go_num, HBO.out⟩
      · obtain rfl : k = 2 := by omega
        go_wp2_with fail
        refine (wakes7_any wo).mono ?_
        rintro e w5 ⟨rfl, hb⟩
        have HB5 := Lib.hid (HB.out.trans (hb.mono HB.out.size))
        clear hb
        go_wp2_with fail
        go_ret
        exact ⟨rfl, HB5.out⟩
  · have HCC := Lib.hid (rcheck_any _ u w2 HTX.out HUL.out)
    obtain ⟨ck, hck⟩ : ∃ ck, ck = checkOf u := ⟨_, rfl⟩
    rw [← hck] at HCC
    have hck0 : ck ≠ 0 := by rw [hck]; exact hc
    have hne : (ck == 0) = false := by simpa using hck0
    have HCN := Lib.hid hc
    have HCK := Lib.hid hck.symm
    clear hc hck
    go_wp2_with fail
    refine (HCC.out).mono ?_
    rintro e w3 ⟨rfl, hb⟩
    replace d0 := below_cells hb _ _ d0
    replace d1 := below_cells hb _ _ d1
    replace d2 := below_cells hb _ _ d2
    replace d3 := below_cells hb _ _ d3
    have HB := Lib.hid (HB.out.trans (hb.mono HB.out.size))
    have HTX := Lib.hid (HTX.out.below hb)
    clear hb
    go_upto_region 4 with fail
    have hm0 : 0 ≤ max 0 ix % 10 := Int.emod_nonneg _ (by decide)
    have hm1 : max 0 ix % 10 < 10 := Int.emod_lt_of_pos _ (by decide)
    generalize max 0 ix % 10 = jx at *
    have hz := heap_alloc_new w3 (.cells #[.int .i64 ix, .int .i64 jx] 3)
    have hal : Below w3.heap.size w3 (w3.alloc (.cells #[.int .i64 ix, .int .i64 jx] 3)) := (Below.refl _ _).alloc (Nat.le_refl _) _
    obtain ⟨L, hL⟩ : ∃ q, q = w3.heap.size := ⟨_, rfl⟩
    rw [← hL] at hz ⊢
    generalize w3.alloc (.cells #[.int .i64 ix, .int .i64 jx] 3) = w4 at *
    have HTX := Lib.hid (HTX.out.below hal)
    have HB := Lib.hid (HB.out.trans (hal.mono HB.out.size))
    have hrow : ∀ k : Nat, k < 2 → ∃ iv : Int, w4.cell? ⟨L, k, none⟩ = some (.int .i64 iv) ∧ -9223372036854775808 ≤ iv ∧ iv ≤ 9223372036854775807 := by
      intro k hk
      match k, hk with
      | 0, _ => exact ⟨ix, cell_at hz, hx1, hx2⟩
      | 1, _ => exact ⟨jx, cell_at hz, by omega, by omega⟩
    have HROW := Lib.hid hrow
    have D0 := Lib.hid (below_cells hal _ _ d0)
    have D1 := Lib.hid (below_cells hal _ _ d1)
    have D2 := Lib.hid (below_cells hal _ _ d2)
    have D3 := Lib.hid (below_cells hal _ _ d3)
    clear hrow hz hal hL d0 d1 d2 d3 hx1 hx2 hm0 hm1
    go_loopg [22] 2 (fun g i wr => ∃ k : Nat, g = 2 - k ∧ k ≤ 2 ∧ i = .int .i64 k ∧ Below w4.heap.size w4 wr)
    case atStart => exact ⟨0, rfl, by omega, rfl, Below.refl _ _⟩
    case round =>
      rename World => wo
      obtain ⟨k, hgk, hk, rfl, hbo⟩ := hrel
      have HGK := Lib.hid hgk
      have HTX := Lib.hid (HTX.out.below hbo)
      have HB := Lib.hid (HB.out.trans (hbo.mono HB.out.size))
      have HBO := Lib.hid hbo
      clear hgk hbo
      by_cases hlt : k < 2
      · obtain ⟨iv, hcell, hi1, hi2⟩ := HROW.out k hlt
        have d0 := below_cells HBO.out _ _ D0.out
        have d1 := below_cells HBO.out _ _ D1.out
        have d2 := below_cells HBO.out _ _ D2.out
        have d3 := below_cells HBO.out _ _ D3.out
        replace hcell := below_cells HBO.out _ _ hcell
        have hlo : (0 : Int) ≤ (k : Int) := by omega
        have hhi : (k : Int) < 2 := by omega
        have HPAY := Lib.hid (ipays_any _ u iv wo HTX.out HUL.out hi1 hi2)
        have hgp := guardPt
        have hpc2 : payC u iv = ck := (if_neg HCN.out).trans HCK.out
        have HPAY := Lib.hid (ipays_err _ u iv wo HTX.out HUL.out hi1 hi2 hpc2 hck0)
        clear hpc2
        go_wp2_with fail
        refine (HPAY.out).mono ?_
        rintro e w5 ⟨rfl, hb⟩
        replace d0 := below_cells hb _ _ d0
        replace d1 := below_cells hb _ _ d1
        replace d2 := below_cells hb _ _ d2
        replace d3 := below_cells hb _ _ d3
        have HBO := Lib.hid (HBO.out.trans (hb.mono HBO.out.size))
        have HB := Lib.hid (HB.out.trans (hb.mono HB.out.size))
        have HTX := Lib.hid (HTX.out.below hb)
        clear hb
        go_upto_region 7 with fail
        have hz := heap_alloc_new w5 (.cells #[.string ⟨#[]⟩, .int .u32 0] 31)
        have hal : Below w5.heap.size w5 (w5.alloc (.cells #[.string ⟨#[]⟩, .int .u32 0] 31)) := (Below.refl _ _).alloc (Nat.le_refl _) _
        obtain ⟨P, hP⟩ : ∃ q, q = w5.heap.size := ⟨_, rfl⟩
        rw [← hP] at hz ⊢
        generalize w5.alloc (.cells #[.string ⟨#[]⟩, .int .u32 0] 31) = w6 at *
        replace d0 := below_cells hal _ _ d0
        replace d1 := below_cells hal _ _ d1
        replace d2 := below_cells hal _ _ d2
        replace d3 := below_cells hal _ _ d3
        have HTX := Lib.hid (HTX.out.below hal)
        have HBO := Lib.hid (HBO.out.trans (hal.mono HBO.out.size))
        have e0 : w6.cell? ⟨P, 0, none⟩ = some (.string ⟨#[]⟩) := cell_at hz
        have e1 : w6.cell? ⟨P, 1, none⟩ = some (.int .u32 0) := cell_at hz
        clear hz hal hP
        have heq : ∀ w : World, (Op.equalIn 10000 31 (.agg #[.string ⟨#[]⟩, .int .u32 0]) (.agg #[.string ⟨#[]⟩, .int .u32 0])).run Try.prog w = .ok true w := fun w => by have := eqIn_pt (⟨#[]⟩, 0) (⟨#[]⟩, 0) w; rw [decide_eq_true rfl] at this; exact this
        go_wp2_with fail
        obtain ⟨C, hC⟩ : ∃ C : World → Prop, C = fun w' => Below w6.heap.size w6 w' := ⟨_, rfl⟩
        have kd0 := kin_cell hC d0
        have kd1 := kin_cell hC d1
        have kd2 := kin_cell hC d2
        have kd3 := kin_cell hC d3
        have ke0 := kin_cell hC e0
        have ke1 := kin_cell hC e1
        have HC := Lib.hid hC
        clear hC
        refine wp_region_kin C (by kernel_rfl) (by kernel_rfl) (by rw [HC.out]; exact ⟨rfl, rfl, rfl, Nat.le_refl _, fun _ _ => rfl⟩) ?_
        intro hne
        repeat (first | (go_big_quiet_step (fail)) | (quiet_step (fail)))
        refine wpQuiet_nil ?_
        intro _ hw'
        obtain ⟨kx, hw''⟩ := hw'
        subst hw''
        obtain ⟨w7, hxc⟩ := kx
        rw [HC.out] at hxc
        clear HC hne kd0 kd1 kd2 kd3 ke0 ke1
        have HBO := Lib.hid (HBO.out.trans (hxc.mono HBO.out.size))
        clear hxc
        go_wp2_with fail
        go_roundg (2 - (k + 1))
        case measure => have := HGK.out; omega
        case rel => exact ⟨k + 1, rfl, by omega, by go_num, HBO.out⟩
      · obtain rfl : k = 2 := by omega
        go_wp2_with fail
        refine (wakes7_any wo).mono ?_
        rintro e w5 ⟨rfl, hb⟩
        have HB5 := Lib.hid (HB.out.trans (hb.mono HB.out.size))
        clear hb
        go_wp2_with fail
        go_ret
        exact ⟨rfl, HB5.out⟩
end Go.Proofs.Ytmcknjldimnaoaa
