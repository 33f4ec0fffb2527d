/-
  ClaimOrder: the walk. Conditions: the claims lie in memory, the numbers are ones of their kinds.
-/
import Derived.Test.YtmakghcoehkphaaGreatKr3
import Derived.Test.YtmakghcoehkphaaGreatKt
import Derived.Test.YtmakghcoehkphaaGreatKu
import Derived.Test.YtmakghcoehkphaaGreatKj
import Derived.Test.YtmakghcoehkphaaGreatKx
import Derived.Test.YtmakghcoehkphaaGreatKs
namespace Go.Proofs.YtmakghcoehkphaaGreat
open Go.RowKit Go.BigFrame
set_option linter.unusedVariables false
set_option linter.unusedSimpArgs false

/-! ### the plain law -/
theorem idB_head : ∀ i : Fin 40, (idL (i.val : Int) 32).head? = some (UInt8.ofNat i.val) := by decide +kernel
theorem idB_inj {i j : Nat} (hi : i < 40) (hj : j < 40) (h : idB i = idB j) : i = j := by
  have h1 : idL i 32 = idL j 32 := by
    have := congrArg (fun b : ByteArray => b.data.toList) h
    simpa [idB] using this
  have h2 := idB_head ⟨i, hi⟩
  have h3 := idB_head ⟨j, hj⟩
  dsimp only at h2 h3
  rw [h1, h3] at h2
  have h4 := congrArg UInt8.toNat (Option.some.inj h2)
  simp at h4
  omega
theorem ofL_conn {l : List PCl} (hl : l.length ≤ 40) : ∀ a b, a ∈ ofL false l → b ∈ ofL false l → ltC a b = false → ltC b a = false → a = b := by
  intro a b ha hb h1 h2
  have h := pt_conn h1 h2
  unfold ofL at ha hb
  obtain ⟨i, hi, rfl⟩ := List.mem_mapIdx.1 ha
  obtain ⟨j, hj, rfl⟩ := List.mem_mapIdx.1 hb
  have h3 : idB i = idB j := congrArg Prod.fst h
  obtain rfl := idB_inj (by omega) (by omega) h3
  rfl
theorem order_same {l : List PCl} (hl : l.length ≤ 40) : grpG bkC ltC (ofL false l) = grpG bkC ltC (ofL false l).reverse :=
  grp_any weakC (List.reverse_perm _).symm (ofL_conn hl)
theorem bid_order {r : Int} {n : Nat} (hr : 0 ≤ r ∧ r ≤ 65535) (hn : 1 ≤ n ∧ n ≤ 32) : ∃ one all : Int, bidS r 1 = (one, 0) ∧ bidS r n = (all, 0) ∧ all ≤ n * one ∧ one ≤ all ∧ (0 ≤ one ∧ one ≤ 100000000) ∧ 0 ≤ all ∧ all ≤ 100000000 := by
  obtain ⟨R, hR⟩ : ∃ R, R = rateUp r := ⟨_, rfl⟩
  have hR2 : 1000 ≤ R ∧ R ≤ 65535 := by rw [hR]; unfold rateUp; rw [if_pos hr.1]; omega
  have hs1 : sizeN 1 = 113 := by decide
  obtain ⟨s, hs⟩ : ∃ s, s = sizeN n := ⟨_, rfl⟩
  have hs2 : 113 ≤ s ∧ s ≤ 113 * n ∧ s ≤ 2000 := by rw [hs]; unfold sizeN; omega
  have e1 : bidS r 1 = ((R * 113 + 999) / 1000, 0) := by
    unfold bidS
    rw [if_pos (by decide), show (1 : Int).toNat = 1 from rfl, hs1, ← hR]
    unfold feeE
    rw [if_pos (by omega)]
  have e2 : bidS r n = ((R * s + 999) / 1000, 0) := by
    unfold bidS
    rw [if_pos (by omega), show ((n : Nat) : Int).toNat = n by omega, ← hR, ← hs]
    unfold feeE
    rw [if_pos (by omega)]
  have hm1 : R * 113 ≤ R * s := Int.mul_le_mul_of_nonneg_left hs2.1 (by omega)
  have hm2 : R * s ≤ R * (113 * n) := Int.mul_le_mul_of_nonneg_left hs2.2.1 (by omega)
  have hm3 : R * s ≤ R * 2000 := Int.mul_le_mul_of_nonneg_left hs2.2.2 (by omega)
  obtain ⟨c, hc⟩ : ∃ c, c = (R * 113 + 999) / 1000 := ⟨_, rfl⟩
  have hc2 : R * 113 ≤ 1000 * c := by omega
  have hm4 : (n : Int) * (R * 113) ≤ n * (1000 * c) := Int.mul_le_mul_of_nonneg_left hc2 (by omega)
  have e3 : R * (113 * (n : Int)) = n * (R * 113) := by rw [← Int.mul_assoc, Int.mul_comm]
  have e4 : (n : Int) * (1000 * c) = 1000 * (n * c) := by rw [← Int.mul_assoc, ← Int.mul_assoc, Int.mul_comm (n : Int) 1000]
  refine ⟨c, (R * s + 999) / 1000, by rw [e1, hc], e2, ?_, ?_, ?_, ?_⟩
  · generalize (n : Int) * c = nc at *
    omega
  · omega
  · omega
  · omega
set_option maxRecDepth 100000 in
set_option maxHeartbeats 8000000 in
theorem claimOrder_walk (vl : Value) (l : List PCl) (z : PRw) (rt : Int) (w : World) (hv : SlAt rpCl w vl l) (hz : z.Ok) (hrt : 0 ≤ rt ∧ rt ≤ 65535) : Calls Tryz.prog 7 #[.agg (rwCells vl z), .int .u16 rt] w (BIs true w) := by
  have HV := Lib.hid hv
  have hz2 : PRw.Ok ⟨z.pid, z.pidx, z.val, z.tag, z.fee, false⟩ := ⟨hz.pid, hz.pidx, hz.val, hz.tag, hz.fee⟩
  have HOF := Lib.hid (fun y (h : SlAt rpCl y vl l) => cof_any vl l ⟨z.pid, z.pidx, z.val, z.tag, z.fee, false⟩ 12 y hz2 h (by decide))
  obtain ⟨sp, hsp⟩ : ∃ s, s = ofQ ⟨z.pid, z.pidx, z.val, z.tag, z.fee, false⟩ := ⟨_, rfl⟩
  obtain ⟨si, hsi⟩ : ∃ s, s = ofI ⟨z.pid, z.pidx, z.val, z.tag, z.fee, false⟩ := ⟨_, rfl⟩
  have HSP := Lib.hid hsp
  have HSI := Lib.hid hsi
  obtain ⟨va, vc, rfl, -, -⟩ := hv.shape
  have hlen : (ofL false (l.take 12)).length ≤ 12 := by rw [ofL_len, List.length_take]; omega
  have hord := order_same (l := l.take 12) (by rw [List.length_take]; omega)
  obtain ⟨ll, hll⟩ : ∃ q, q = ofL false (l.take 12) := ⟨_, rfl⟩
  rw [← hll] at hlen hord
  have HORD := Lib.hid hord
  have HLL := Lib.hid hll
  have HLN := Lib.hid hlen
  generalize l.length = n0 at *
  unfold rwCells at HOF ⊢
  clear hsp hsi hz hz2 hv hll hlen hord
  go_enter Tryz.func7, Tryz.ntmps7
  go_upto_region 1 with fail
  have hz := heap_alloc_new w (.cells #[.slice va n0 vc, .string z.pid, .int .u32 z.pidx, .int .i64 z.val, .int .u16 z.tag, .int .i64 z.fee, .bool z.odd] 28)
  have hal : Below w.heap.size w (w.alloc (.cells #[.slice va n0 vc, .string z.pid, .int .u32 z.pidx, .int .i64 z.val, .int .u16 z.tag, .int .i64 z.fee, .bool z.odd] 28)) := (Below.refl _ _).alloc (Nat.le_refl _) _
  obtain ⟨X, hX⟩ : ∃ q, q = w.heap.size := ⟨_, rfl⟩
  rw [← hX] at hz ⊢
  generalize w.alloc (.cells #[.slice va n0 vc, .string z.pid, .int .u32 z.pidx, .int .i64 z.val, .int .u16 z.tag, .int .i64 z.fee, .bool z.odd] 28) = w0 at *
  have hX1 : w.heap.size ≤ X := by omega
  have HZ0 := Lib.hid hz
  have HB0 := Lib.hid hal
  have y6 : w0.cell? ⟨X, 6, none⟩ = some (.bool z.odd) := cell_at hz
  have g6 : w0.frozen? ⟨X, 6, none⟩ = false := free_at hz
  clear hz hal hX
  go_upto_region 2 with fail
  have hz1 := heap_setCell_at (j := 6) (u := .bool false) HZ0.out
  have HB1 := Lib.hid (HB0.out.setCell (p := ⟨X, 6, none⟩) hX1 (.bool false))
  generalize w0.setCell ⟨X, 6, none⟩ (.bool false) = w1 at *
  have hz2 : w1.heap[X]? = some (.cells #[.slice va n0 vc, .string z.pid, .int .u32 z.pidx, .int .i64 z.val, .int .u16 z.tag, .int .i64 z.fee, .bool false] 28 (0, 0)) := hz1
  have z0 : w1.cell? ⟨X, 0, none⟩ = some (.slice va n0 vc) := cell_at hz2
  have z1 : w1.cell? ⟨X, 1, none⟩ = some (.string z.pid) := cell_at hz2
  have z2 : w1.cell? ⟨X, 2, none⟩ = some (.int .u32 z.pidx) := cell_at hz2
  have z3 : w1.cell? ⟨X, 3, none⟩ = some (.int .i64 z.val) := cell_at hz2
  have z4 : w1.cell? ⟨X, 4, none⟩ = some (.int .u16 z.tag) := cell_at hz2
  have z5 : w1.cell? ⟨X, 5, none⟩ = some (.int .i64 z.fee) := cell_at hz2
  have z6 : w1.cell? ⟨X, 6, none⟩ = some (.bool false) := cell_at hz2
  have HOF := Lib.hid (HOF.out w1 (HV.out.below HB1.out))
  clear hz1 hz2 y6 g6 HZ0 HB0
  go_wp2_with fail
  refine HOF.out.mono ?_
  rintro e w2 ⟨v1, rfl, hown, hb⟩
  rw [← HLL.out] at hown
  rw [← HSP.out, ← HSI.out]
  have HB2 := Lib.hid (HB1.out.trans (hb.mono HB1.out.size))
  have HSL := Lib.hid hown.sl
  have HG1 := Lib.hid (fun v y (h : SlAt rpCl y v ll) => group_any v ll y h (by have := HLN.out; omega))
  have HG2 := Lib.hid (fun v y (h : SlAt rpCl y v ll.reverse) => group_any v ll.reverse y h (by have := HLN.out; rw [List.length_reverse]; omega))
  rw [← HORD.out] at HG2
  obtain ⟨a1, c1, hv1, -, -⟩ := ownsRow_shape hown.row
  subst hv1
  obtain ⟨n1, hn1⟩ : ∃ q, q = ll.length := ⟨_, rfl⟩
  have hn12 : n1 ≤ 12 := by rw [hn1]; exact HLN.out
  rw [← hn1] at HSL ⊢
  have HN1 := Lib.hid hn1
  clear hb hown HOF z0 z1 z2 z3 z4 z5 z6 HB1 hn1
  go_upto_region 3 with fail
  have hz := heap_alloc_new w2 (.cells #[.string sp, .int .u32 si] 25)
  have hal : Below w2.heap.size w2 (w2.alloc (.cells #[.string sp, .int .u32 si] 25)) := (Below.refl _ _).alloc (Nat.le_refl _) _
  obtain ⟨P, hP⟩ : ∃ q, q = w2.heap.size := ⟨_, rfl⟩
  rw [← hP] at hz ⊢
  generalize w2.alloc (.cells #[.string sp, .int .u32 si] 25) = w3 at *
  have HB3 := Lib.hid (HB2.out.trans (hal.mono HB2.out.size))
  have HSL := Lib.hid (HSL.out.below hal)
  clear hz hal hP HB2
  go_wp2_with fail
  go_loopg [7, 24] n1 (fun g r i wr => ∃ (k : Nat) (r0 : Value), r = r0 ∧ g = n1 - k ∧ k ≤ n1 ∧ i = .int .i64 k ∧ Below w3.heap.size w3 wr ∧ ClsOwn w3.heap.size wr r0 (ll.reverse.take k))
  case atStart => exact ⟨0, _, rfl, rfl, by omega, rfl, Below.refl _ _, clsOwn_nil _ _⟩
  case round =>
    rename World => wo
    obtain ⟨k, r0, hr0, hgk, hk, rfl, hb, hown⟩ := hrel
    obtain rfl := hr0.symm
    have HGK := Lib.hid hgk
    have HB := Lib.hid hb
    have HOW := Lib.hid hown
    clear hgk hb hown
    by_cases hlt : k < n1
    · obtain ⟨q, hq⟩ : ∃ q, q + k + 1 = n1 := ⟨n1 - 1 - k, by omega⟩
      have hqn : q < n1 := by omega
      obtain ⟨b, o, x, rfl, hx, hok, hcl⟩ := (HSL.out.below HB.out).cl hqn
      obtain ⟨d0, d1, d2, d3, d4, d5, d6, d7⟩ := hcl
      have HTK := Lib.hid (show ll.reverse.take (k + 1) = ll.reverse.take k ++ [x] from take_snoc (by
        rw [List.getElem?_reverse (by rw [← HN1.out]; exact hlt), ← HN1.out, show n1 - 1 - k = q by omega]
        exact hx))
      have hlk : (ll.reverse.take k).length = k := by rw [List.length_take, List.length_reverse, ← HN1.out]; omega
      obtain ⟨a6, c6', hrs, -, -⟩ := ownsRow_shape HOW.out.row
      rw [hlk] at hrs
      subst hrs
      obtain ⟨a8, c8, w6, hrun, hown6, hb6⟩ := HOW.out.app hlk (by omega) HB.out.size hok
      have HR := Lib.hid hrun
      have HB6 := Lib.hid (HB.out.trans hb6)
      have HO6 := Lib.hid (show ClsOwn w3.heap.size w6 (.slice a8 (k + 1) c8) (ll.reverse.take (k + 1)) by rw [HTK.out]; exact hown6)
      have hs1 : IntKind.i64.wrap ((n1 : Int) - 1) = (n1 : Int) - 1 := by rw [IntKind.wrap_i64]; omega
      have hs2 : (n1 : Int) - 1 - (k : Int) = (q : Int) := by omega
      have HQ := Lib.hid hq
      clear hx hok hlk hrun hown6 hb6 hq
      go_wp2_with (at_builtin; refine wpList_append_run rfl (.tmp 27) (.tmp 36) 22 22 rfl rfl rfl HR.out ?_)
      go_roundg (n1 - (k + 1))
      case measure => have := HGK.out; omega
      case rel => exact ⟨k + 1, _, rfl, rfl, by omega, by go_num, HB6.out, HO6.out⟩
    · obtain rfl : n1 = k := by omega
      have HSR := Lib.hid (show SlAt rpCl wo r0 ll.reverse from by
        have h := HOW.out.sl
        rw [List.take_of_length_le (by rw [List.length_reverse, ← HN1.out]; exact Nat.le_refl _)] at h
        exact h)
      have HSL := Lib.hid (HSL.out.below HB.out)
      have HB3 := Lib.hid (HB3.out.trans (HB.out.mono HB3.out.size))
      obtain ⟨ra, rc, hrr, -, -⟩ := HSR.out.shape
      subst hrr
      rw [List.length_reverse, ← HN1.out] at HSR ⊢
      obtain ⟨gs, hgs⟩ : ∃ q, q = grpG bkC ltC ll := ⟨_, rfl⟩
      rw [← hgs] at HG1 HG2
      clear hgs HOW HB HORD
      go_wp2_with fail
      refine (HG1.out _ wo HSL.out).mono ?_
      rintro e w4 ⟨g1, rfl, hs1, hb⟩
      have HB4 := Lib.hid (HB3.out.trans (hb.mono HB3.out.size))
      have HSR := Lib.hid (HSR.out.below hb)
      have HS1 := Lib.hid hs1
      clear hs1 hb HB3
      go_wp2_with fail
      refine (HG2.out _ w4 HSR.out).mono ?_
      rintro e w5 ⟨g2, rfl, hs2, hb⟩
      have HB5 := Lib.hid (HB4.out.trans (hb.mono HB4.out.size))
      have HS1 := Lib.hid (HS1.out.below hb)
      have HS2 := Lib.hid hs2
      clear hs2 hb HB4 HG1 HG2 HSL HSR
      obtain ⟨a3, c3, rfl, -, hc3⟩ := HS1.out.shape
      obtain ⟨a4, c4, rfl, -, hc4⟩ := HS2.out.shape
      have hgl := HS1.out.shape
      obtain ⟨q, hq⟩ : ∃ q, q = gs.length := ⟨_, rfl⟩
      have hq63 : q ≤ 9223372036854775807 := by
        obtain ⟨_, c9, e9, h9, h10⟩ := hgl
        rw [maxLen_eq] at h10
        omega
      rw [← hq] at HS1 HS2 ⊢
      clear hgl hq hc3 hc4
      go_wp2_with fail
      go_loopg [50] q (fun g i wr => ∃ k : Nat, g = q - k ∧ k ≤ q ∧ i = .int .i64 k ∧ Below w5.heap.size w5 wr)
      case atStart => exact ⟨0, rfl, by omega, rfl, Below.refl _ _⟩
      case round =>
        rename World => wb
        obtain ⟨k, hgk, hk, rfl, hb⟩ := hrel
        have HGK := Lib.hid hgk
        have HBB := Lib.hid hb
        clear hgk hb
        by_cases hlt3 : k < q
        · obtain ⟨b, o, g, ga, gc, rfl, hg0, q0, hgs⟩ := (HS1.out.below HBB.out).grp hlt3
          obtain ⟨b', o', g', ga', gc', rfl, hg0', q1, hgs'⟩ := (HS2.out.below HBB.out).grp hlt3
          rw [hg0] at hg0'
          obtain rfl := Option.some.inj hg0'
          have HE1 := Lib.hid hgs
          have HE2 := Lib.hid hgs'
          clear hg0 hg0' hgs hgs'
          go_upto_region 15 with fail
          obtain ⟨C, hC⟩ : ∃ C : World → Prop, C = fun w' => Below wb.heap.size wb w' := ⟨_, rfl⟩
          have kq0 := kin_cell hC q0
          have kq1 := kin_cell hC q1
          have QNc := Lib.hid (kin_call hC fun y h => equalC_any _ _ g y (HE1.out.below h) (HE2.out.below h))
          have HC := Lib.hid hC
          clear hC
          refine wp_region_kin C (by kernel_rfl) (by kernel_rfl) (by rw [HC.out]; exact ⟨rfl, rfl, rfl, Nat.le_refl _, fun _ _ => rfl⟩) ?_
          intro hne
          repeat (first | (go_big_quiet_step ((rename_i y; go_at_call 25; exact Calls.kin (QNc.out y) (fun w' h => h)))) | (quiet_step ((rename_i y; go_at_call 25; exact Calls.kin (QNc.out y) (fun w' h => h)))))
          refine wpQuiet_nil ?_
          intro _ hw'
          obtain ⟨kx, hw''⟩ := hw'
          subst hw''
          obtain ⟨w6, hxc⟩ := kx
          rw [HC.out] at hxc
          clear HC hne kq0 kq1
          have HB6 := Lib.hid (HBB.out.trans (hxc.mono HBB.out.size))
          clear hxc q0 q1
          go_wp2_with fail
          go_roundg (q - (k + 1))
          case measure => have := HGK.out; omega
          case rel => exact ⟨k + 1, rfl, by omega, by go_num, HB6.out⟩
        · obtain rfl : q = k := by omega
          have HBW := Lib.hid (HB5.out.trans (HBB.out.mono HB5.out.size))
          by_cases hn0 : n1 = 0
          · subst hn0
            go_wp2_with fail
            refine (wakes25_any wb).mono ?_
            rintro e w6 ⟨rfl, hb⟩
            have HB6 := Lib.hid (HBW.out.trans (hb.mono HBW.out.size))
            clear hb
            go_wp2_with fail
            go_ret
            exact ⟨rfl, HB6.out⟩
          · obtain ⟨one, all, e1, e2, h1, h2, h3, h4⟩ := bid_order hrt (n := n1) (by omega)
            have HQ1 := Lib.hid (fun y => kbid_any rt 1 y)
            have HQ2 := Lib.hid (fun y => kbid_any rt n1 y)
            rw [e1] at HQ1
            rw [e2] at HQ2
            dsimp only at HQ1 HQ2
            have hcv : IntKind.i64.wrap rt = rt := by rw [IntKind.wrap_i64]; omega
            have hnn : ((n1 : Int) == 0) = false := by rw [beq_eq_false_iff_ne]; omega
            have hm : (n1 : Int) * one ≤ 32 * 100000000 := Int.le_trans (Int.mul_le_mul_of_nonneg_right (show (n1 : Int) ≤ 32 by omega) h3.1) (Int.mul_le_mul_of_nonneg_left h3.2 (by decide))
            have hm0 : 0 ≤ (n1 : Int) * one := Int.mul_nonneg (by omega) h3.1
            have hwm : IntKind.i64.wrap ((n1 : Int) * one) = (n1 : Int) * one := by rw [IntKind.wrap_i64]; omega
            have hd1 : decide (all ≤ (n1 : Int) * one) = true := decide_eq_true h1
            have hd2 : decide (one ≤ all) = true := decide_eq_true h2
            clear e1 e2
            go_wp2_with fail
            refine (HQ1.out wb).mono ?_
            rintro e w6 ⟨rfl, hb⟩
            have HB6 := Lib.hid (HBW.out.trans (hb.mono HBW.out.size))
            clear hb
            go_wp2_with fail
            refine (HQ2.out w6).mono ?_
            rintro e w7 ⟨rfl, hb⟩
            have HB7 := Lib.hid (HB6.out.trans (hb.mono HB6.out.size))
            clear hb
            go_wp2_with fail
            refine (wakes25_any w7).mono ?_
            rintro e w8 ⟨rfl, hb⟩
            have HB8 := Lib.hid (HB7.out.trans (hb.mono HB7.out.size))
            clear hb
            go_wp2_with fail
            go_ret
            exact ⟨rfl, HB8.out⟩
theorem claimOrder_at (v : Value) (q : Value × List PCl × PRw) (d : Int) (w : World) (h : RawAt w v q) (hd : (Lit.int .u16 d).wf = true) : Calls Tryz.prog 7 #[v, .int .u16 d] w (BIs true w) := by
  obtain ⟨rfl, h1, h2⟩ := h
  exact claimOrder_walk q.1 q.2.1 q.2.2 d w h1 h2 (wf_u16 hd)
end Go.Proofs.YtmakghcoehkphaaGreat
