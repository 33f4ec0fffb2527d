/-
  ClaimGroups: the walk. Conditions: the claims lie in memory, the numbers are ones of their kinds.
-/
import Derived.Test.YtmakghcoehkphaaGreatKs2
import Derived.Test.YtmakghcoehkphaaGreatKt
import Derived.Test.YtmakghcoehkphaaGreatKu
import Derived.Test.YtmakghcoehkphaaGreatKj
import Derived.Test.YtmakghcoehkphaaGreatKx
namespace Go.Proofs.YtmakghcoehkphaaGreat
open Go.RowKit Go.BigFrame
set_option linter.unusedVariables false
set_option linter.unusedSimpArgs false

theorem two_intW {w : World} {b : Nat} {x y : Int} {t : TypeId} (h : w.heap[b]? = some (.cells #[.int .i64 x, .int .i64 y] t (0, 0))) {k : Nat} (hk : k < 2) : ∃ u : Int, w.cell? ⟨b, k, none⟩ = some (.int .i64 u) := by
  obtain rfl | rfl : k = 0 ∨ k = 1 := by omega
  · exact ⟨x, cell_at h⟩
  · exact ⟨y, cell_at h⟩
set_option maxRecDepth 100000 in
set_option maxHeartbeats 8000000 in
theorem claimGroups_walk (vl : Value) (l : List PCl) (z : PRw) (dd : Int) (w : World) (hv : SlAt rpCl w vl l) (hz : z.Ok) : Calls Tryz.prog 6 #[.agg (rwCells vl z), .int .i64 dd] w (BIs true w) := by
  have HV := Lib.hid hv
  have HOF := Lib.hid (fun y (h : SlAt rpCl y vl l) => cof_any vl l z 12 y hz h (by decide))
  obtain ⟨sp, hsp⟩ : ∃ s, s = ofQ z := ⟨_, rfl⟩
  obtain ⟨si, hsi⟩ : ∃ s, s = ofI z := ⟨_, rfl⟩
  have HSP := Lib.hid hsp
  have HSI := Lib.hid hsi
  obtain ⟨va, vc, rfl, -, -⟩ := hv.shape
  have hlen : (ofL z.odd (l.take 12)).length ≤ 12 := by rw [ofL_len, List.length_take]; omega
  obtain ⟨ll, hll⟩ : ∃ q, q = ofL z.odd (l.take 12) := ⟨_, rfl⟩
  rw [← hll] at hlen
  have HLL := Lib.hid hll
  have HLN := Lib.hid hlen
  generalize l.length = n0 at *
  unfold rwCells at HOF ⊢
  clear hsp hsi hz hv hll hlen
  go_enter Tryz.func6, Tryz.ntmps6
  go_upto_region 1 with fail
  have hz := heap_alloc_new w (.cells #[.slice va n0 vc, .string z.pid, .int .u32 z.pidx, .int .i64 z.val, .int .u16 z.tag, .int .i64 z.fee, .bool z.odd] 28)
  have hal : Below w.heap.size w (w.alloc (.cells #[.slice va n0 vc, .string z.pid, .int .u32 z.pidx, .int .i64 z.val, .int .u16 z.tag, .int .i64 z.fee, .bool z.odd] 28)) := (Below.refl _ _).alloc (Nat.le_refl _) _
  obtain ⟨X, hX⟩ : ∃ q, q = w.heap.size := ⟨_, rfl⟩
  rw [← hX] at hz ⊢
  generalize w.alloc (.cells #[.slice va n0 vc, .string z.pid, .int .u32 z.pidx, .int .i64 z.val, .int .u16 z.tag, .int .i64 z.fee, .bool z.odd] 28) = w0 at *
  have HZ0 := Lib.hid hz
  have HB0 := Lib.hid hal
  have hX1 : w.heap.size ≤ X := by omega
  clear hz hal hX
  go_wp2_with fail
  generalize max 0 dd % 100 = d2 at *
  have hz := heap_alloc_new w0 (.cells #[.int .i64 dd, .int .i64 d2] 3)
  have hal : Below w0.heap.size w0 (w0.alloc (.cells #[.int .i64 dd, .int .i64 d2] 3)) := (Below.refl _ _).alloc (Nat.le_refl _) _
  obtain ⟨S, hS⟩ : ∃ q, q = w0.heap.size := ⟨_, rfl⟩
  rw [← hS] at hz ⊢
  generalize w0.alloc (.cells #[.int .i64 dd, .int .i64 d2] 3) = w1 at *
  have HS := Lib.hid hz
  have HZ0 := Lib.hid (stay HZ0.out hal)
  have HB1 := Lib.hid (HB0.out.trans (hal.mono HB0.out.size))
  clear hz hal hS HB0
  go_loopg [21] 2 (fun g i wr => ∃ k : Nat, g = 2 - k ∧ k ≤ 2 ∧ i = .int .i64 k ∧ w1 = wr)
  case atStart => exact ⟨0, rfl, by omega, rfl, rfl⟩
  case round =>
    rename World => wa
    obtain ⟨k, hgk, hk, rfl, rfl⟩ := hrel
    have HGK := Lib.hid hgk
    clear hgk
    by_cases hlt : k < 2
    · obtain ⟨d, s0⟩ := two_intW HS.out hlt
      have HBQ := Lib.hid (bucket_any d w1)
      have HRQ := Lib.hid (rbucket_any d w1)
      by_cases hbad : d < 0 ∨ 1000000 < d
      · rw [show bktE d = (0, 3) from if_pos hbad] at HBQ
        rw [show bktOf d = -1 from if_pos hbad] at HRQ
        dsimp only at HBQ
        clear hbad
        go_wp2_with fail
        refine HBQ.out.mono ?_
        rintro e w' ⟨rfl, rfl⟩
        go_wp2_with fail
        refine HRQ.out.mono ?_
        rintro e w' ⟨rfl, rfl⟩
        go_wp2_with fail
        go_roundg (2 - (k + 1))
        case measure => have := HGK.out; omega
        case rel => exact ⟨k + 1, rfl, by omega, by go_num, rfl⟩
      · rw [show bktE d = (d / 6, 0) from if_neg hbad] at HBQ
        rw [show bktOf d = d / 6 from if_neg hbad] at HRQ
        have hd0 : 0 ≤ d / 6 := by omega
        dsimp only at HBQ
        generalize d / 6 = q at *
        clear hbad
        go_wp2_with fail
        refine HBQ.out.mono ?_
        rintro e w' ⟨rfl, rfl⟩
        go_wp2_with fail
        refine HRQ.out.mono ?_
        rintro e w' ⟨rfl, rfl⟩
        go_wp2_with fail
        go_roundg (2 - (k + 1))
        case measure => have := HGK.out; omega
        case rel => exact ⟨k + 1, rfl, by omega, by go_num, rfl⟩
    · obtain rfl : k = 2 := by omega
      have z0 : w1.cell? ⟨X, 0, none⟩ = some (.slice va n0 vc) := cell_at HZ0.out
      have z1 : w1.cell? ⟨X, 1, none⟩ = some (.string z.pid) := cell_at HZ0.out
      have z2 : w1.cell? ⟨X, 2, none⟩ = some (.int .u32 z.pidx) := cell_at HZ0.out
      have z3 : w1.cell? ⟨X, 3, none⟩ = some (.int .i64 z.val) := cell_at HZ0.out
      have z4 : w1.cell? ⟨X, 4, none⟩ = some (.int .u16 z.tag) := cell_at HZ0.out
      have z5 : w1.cell? ⟨X, 5, none⟩ = some (.int .i64 z.fee) := cell_at HZ0.out
      have z6 : w1.cell? ⟨X, 6, none⟩ = some (.bool z.odd) := cell_at HZ0.out
      have HOF := Lib.hid (HOF.out w1 (HV.out.below HB1.out))
      go_wp2_with fail
      refine HOF.out.mono ?_
      rintro e w2 ⟨v1, rfl, hown, hb⟩
      rw [← HLL.out] at hown
      rw [← HSP.out, ← HSI.out]
      have HB2 := Lib.hid (HB1.out.trans (hb.mono HB1.out.size))
      have HSL := Lib.hid hown.sl
      have HG1 := Lib.hid (fun v y (h : SlAt rpCl y v ll) => group_any v ll y h (by have := HLN.out; omega))
      have HG2 := Lib.hid (fun v y (h : SlAt rpCl y v ll) => rgroup_any v ll y h (by have := HLN.out; omega))
      obtain ⟨a1, c1, hv1, -, -⟩ := ownsRow_shape hown.row
      subst hv1
      generalize ll.length = n1 at *
      clear hb hown HOF z0 z1 z2 z3 z4 z5 z6 HZ0 HB1 HS
      go_upto_region 10 with fail
      have hz := heap_alloc_new w2 (.cells #[.string sp, .int .u32 si] 25)
      have hal : Below w2.heap.size w2 (w2.alloc (.cells #[.string sp, .int .u32 si] 25)) := (Below.refl _ _).alloc (Nat.le_refl _) _
      obtain ⟨P, hP⟩ : ∃ q, q = w2.heap.size := ⟨_, rfl⟩
      rw [← hP] at hz ⊢
      generalize w2.alloc (.cells #[.string sp, .int .u32 si] 25) = w3 at *
      have HB3 := Lib.hid (HB2.out.trans (hal.mono HB2.out.size))
      have HSL := Lib.hid (HSL.out.below hal)
      clear hz hal hP HB2
      obtain ⟨gs, hgs⟩ : ∃ q, q = grpG bkC ltC ll := ⟨_, rfl⟩
      rw [← hgs] at HG1 HG2
      clear hgs
      go_wp2_with fail
      refine (HG1.out _ w3 HSL.out).mono ?_
      rintro e w4 ⟨g1, rfl, hs1, hb⟩
      have HB4 := Lib.hid (HB3.out.trans (hb.mono HB3.out.size))
      have HSL := Lib.hid (HSL.out.below hb)
      have HS1 := Lib.hid hs1
      clear hs1 hb HB3
      go_wp2_with fail
      refine (HG2.out _ w4 HSL.out).mono ?_
      rintro e w5 ⟨g2, rfl, hs2, hb⟩
      have HB5 := Lib.hid (HB4.out.trans (hb.mono HB4.out.size))
      have HS1 := Lib.hid (HS1.out.below hb)
      have HS2 := Lib.hid hs2
      clear hs2 hb HB4 HG1 HG2 HSL
      obtain ⟨a3, c3, rfl, -, hc3⟩ := HS1.out.shape
      obtain ⟨a4, c4, rfl, -, hc4⟩ := HS2.out.shape
      have hgl := HS1.out.shape
      obtain ⟨q, hq⟩ : ∃ q, q = gs.length := ⟨_, rfl⟩
      have hq63 : q ≤ 9223372036854775807 := by
        obtain ⟨_, c9, e9, h9, h10⟩ := hgl
        rw [maxLen_eq] at h10
        omega
      rw [← hq] at HS1 HS2 ⊢
      clear hgl hq hc3 hc4
      go_wp2_with fail
      go_loopg [75] q (fun g i wr => ∃ k : Nat, g = q - k ∧ k ≤ q ∧ i = .int .i64 k ∧ Below w5.heap.size w5 wr)
      case atStart => exact ⟨0, rfl, by omega, rfl, Below.refl _ _⟩
      case round =>
        rename World => wb
        obtain ⟨k, hgk, hk, rfl, hb⟩ := hrel
        have HGK := Lib.hid hgk
        have HBB := Lib.hid hb
        clear hgk hb
        by_cases hlt3 : k < q
        · obtain ⟨b, o, g, ga, gc, rfl, hg0, q0, hgs⟩ := (HS1.out.below HBB.out).grp hlt3
          obtain ⟨b', o', g', ga', gc', rfl, hg0', q1, hgs'⟩ := (HS2.out.below HBB.out).grp hlt3
          rw [hg0] at hg0'
          obtain rfl := Option.some.inj hg0'
          have HE1 := Lib.hid hgs
          have HE2 := Lib.hid hgs'
          clear hg0 hg0' hgs hgs'
          go_upto_region 16 with fail
          obtain ⟨C, hC⟩ : ∃ C : World → Prop, C = fun w' => Below wb.heap.size wb w' := ⟨_, rfl⟩
          have kq0 := kin_cell hC q0
          have kq1 := kin_cell hC q1
          have QNc := Lib.hid (kin_call hC fun y h => equalC_any _ _ g y (HE1.out.below h) (HE2.out.below h))
          have HC := Lib.hid hC
          clear hC
          refine wp_region_kin C (by kernel_rfl) (by kernel_rfl) (by rw [HC.out]; exact ⟨rfl, rfl, rfl, Nat.le_refl _, fun _ _ => rfl⟩) ?_
          intro hne
          repeat (first | (go_big_quiet_step ((rename_i y; go_at_call 25; exact Calls.kin (QNc.out y) (fun w' h => h)))) | (quiet_step ((rename_i y; go_at_call 25; exact Calls.kin (QNc.out y) (fun w' h => h)))))
          refine wpQuiet_nil ?_
          intro _ hw'
          obtain ⟨kx, hw''⟩ := hw'
          subst hw''
          obtain ⟨w6, hxc⟩ := kx
          rw [HC.out] at hxc
          clear HC hne kq0 kq1
          have HB6 := Lib.hid (HBB.out.trans (hxc.mono HBB.out.size))
          clear hxc q0 q1
          go_wp2_with fail
          go_roundg (q - (k + 1))
          case measure => have := HGK.out; omega
          case rel => exact ⟨k + 1, rfl, by omega, by go_num, HB6.out⟩
        · obtain rfl : q = k := by omega
          go_wp2_with fail
          refine (wakes25_any wb).mono ?_
          rintro e w6 ⟨rfl, hb⟩
          have HB6 := Lib.hid ((HB5.out.trans (HBB.out.mono HB5.out.size)).trans (hb.mono (Nat.le_trans HB5.out.size HBB.out.size)))
          clear hb
          go_wp2_with fail
          go_ret
          exact ⟨rfl, HB6.out⟩
theorem claimGroups_at (v : Value) (q : Value × List PCl × PRw) (d : Int) (w : World) (h : RawAt w v q) (hd : (Lit.int .i64 d).wf = true) : Calls Tryz.prog 6 #[v, .int .i64 d] w (BIs true w) := by
  obtain ⟨rfl, h1, h2⟩ := h
  exact claimGroups_walk q.1 q.2.1 q.2.2 d w h1 h2
end Go.Proofs.YtmakghcoehkphaaGreat
