/-
  LockRipe: the walk. Conditions: none.
-/
import Derived.Test.YtiicigpndagecaaLockC
namespace Go.Proofs.Ytiicigpndagecaa
open Go.RowKit Go.BigFrame
set_option linter.unusedVariables false
set_option linter.unusedSimpArgs false

theorem ripeOf_succ {t : PTx} {i c h : Int} (hr : ripeOf t i c h = true) (hh : h < 1000000) : ripeOf t i c (h + 1) = true := by
  unfold ripeOf okHeight at *
  simp only [Bool.and_eq_true, Bool.or_eq_true, decide_eq_true_eq] at *
  obtain ⟨⟨⟨⟨h1, h2⟩, h3⟩, h4⟩, h5⟩ := hr
  refine ⟨⟨⟨⟨h1, h2⟩, by omega, by omega⟩, by omega⟩, ?_⟩
  rcases h5 with h5 | h5
  · exact .inl (by omega)
  · exact .inr h5

theorem two_at {w : World} {b : Nat} {x0 x1 : Int} {e : TypeId} (h : w.heap[b]? = some (.cells #[.int .i64 x0, .int .i64 x1] e (0, 0))) {k : Nat} (hk : k < 2) : ∃ y : Int, (y = x0 ∨ y = x1) ∧ w.cell? ⟨b, k, none⟩ = some (.int .i64 y) := by
  match k, hk with
  | 0, _ => exact ⟨x0, .inl rfl, by rw [cell_at h]; rfl⟩
  | 1, _ => exact ⟨x1, .inr rfl, by rw [cell_at h]; rfl⟩

set_option maxRecDepth 100000 in
set_option maxHeartbeats 4000000 in
theorem lockRipe_walk (v : Value) (z : PSpend) (w : World) (hv : SpAt w v z) :
    Calls Try.prog 4 #[v] w fun e w' => e = .returned (.bool true) ∧ Below w.heap.size w w' := by
  obtain ⟨vb, va, vo, rfl, hb, ht⟩ := hv.is
  have HV := Lib.hid hv
  clear hv hb ht
  obtain ⟨xs, s, t, n3, n4, n5, raw, own, br, tg⟩ := z
  dsimp only at *
  have ha : Below w.heap.size w (w.alloc (.cells #[vb, .string s, .int .u32 t.ver, va, vo, .int .u32 t.lock, .int .i64 n3, .int .i64 n4, .int .i64 n5, .bool raw, .bool own, .int .u8 br, .int .u8 tg] 29)) := (Below.refl _ _).alloc (Nat.le_refl _) _
  have HAL := Lib.hid ha
  clear ha
  go_enter Try.func4, Try.ntmps4
  go_wp2_with fail
  refine (spending_any _ _ _ (HV.out.below HAL.out)).mono ?_
  rintro e w2 ⟨v2, t2, i2, rfl, ht2, hi2, hb2⟩
  have hz2 := box_kept hb2
  have H2 := Lib.hid (HAL.out.trans (hb2.mono HAL.out.size))
  have zw2_6 : w2.cell? ⟨w.heap.size, 6, none⟩ = some (.int .i64 n3) := cell_at hz2
  obtain ⟨va2, vo2, rfl, hia, hoa, hver, hlock⟩ := id ht2
  obtain ⟨ver2, ins2, outs2, lock2⟩ := t2
  dsimp only at hia hoa hver hlock
  obtain ⟨a2, c2, rfl, -, -⟩ := hia.shape
  obtain ⟨a3, c3, rfl, -, -⟩ := hoa.shape
  have HT2 := Lib.hid ht2
  have HZ2 := Lib.hid hz2
  clear hz2 hb2 ht2 hia hoa hver hlock
  generalize hn2 : ins2.length = N2 at *
  generalize hm2 : outs2.length = M2 at *
  have HNM := Lib.hid (And.intro hn2 hm2)
  have z6' := fun ob => cell_over zw2_6 ob
  clear hn2 hm2
  go_wp2_with fail
  have hT : ((w2.alloc (.cells #[.int .u32 ver2, .slice a2 N2 c2, .slice a3 M2 c3, .int .u32 lock2] 27)).alloc (.cells #[.int .i64 i2, .int .i64 n3] 3)).heap[w2.heap.size]? = some (.cells #[.int .u32 ver2, .slice a2 N2 c2, .slice a3 M2 c3, .int .u32 lock2] 27 (0, 0)) := by
    rw [Below.heap_alloc _ _ _ (by simp)]
    exact heap_alloc_new w2 _
  have hL1 := heap_alloc_new (w2.alloc (.cells #[.int .u32 ver2, .slice a2 N2 c2, .slice a3 M2 c3, .int .u32 lock2] 27)) (.cells #[.int .i64 i2, .int .i64 n3] 3)
  have hs3 : (w2.alloc (.cells #[.int .u32 ver2, .slice a2 N2 c2, .slice a3 M2 c3, .int .u32 lock2] 27)).heap.size = w2.heap.size + 1 := by simp
  have hb3 : Below w2.heap.size w2 ((w2.alloc (.cells #[.int .u32 ver2, .slice a2 N2 c2, .slice a3 M2 c3, .int .u32 lock2] 27)).alloc (.cells #[.int .i64 i2, .int .i64 n3] 3)) := ((Below.refl _ _).alloc (Nat.le_refl _) _).alloc (by omega) _
  rw [hs3] at hL1
  generalize (w2.alloc (.cells #[.int .u32 ver2, .slice a2 N2 c2, .slice a3 M2 c3, .int .u32 lock2] 27)).alloc (.cells #[.int .i64 i2, .int .i64 n3] 3) = w3 at *
  have HT3 := Lib.hid (HT2.out.below hb3)
  have HZ3 := Lib.hid (kept_on HZ2.out hb3)
  have H3 := Lib.hid (H2.out.trans (hb3.mono H2.out.size))
  have HTB := Lib.hid hT
  have HL1 := Lib.hid hL1
  clear hT hL1 hs3 hb3 HT2 HZ2 z6' zw2_6
  have hn5 : i64ok n5 := HV.out.height
  have HN5 := Lib.hid hn5
  clear hn5
  go_loopg [6, 22] 2 (fun g _ i wr => ∃ k : Nat, g = 2 - k ∧ k ≤ 2 ∧ i = .int .i64 k ∧ Below w3.heap.size w3 wr)
  case atStart => exact ⟨0, rfl, by omega, rfl, Below.refl _ _⟩
  case round =>
    rename World => wa
    obtain ⟨k, hgk, hk2, rfl, hbw⟩ := hrel
    have HGK := Lib.hid hgk
    have HBA := Lib.hid hbw
    clear hgk hbw
    have HWA := Lib.hid (H3.out.trans (HBA.out.mono H3.out.size))
    by_cases hlt : k < 2
    · obtain ⟨y1, -, hy1⟩ := two_at (kept_on HL1.out HBA.out) hlt
      have hza := kept_on HZ3.out HBA.out
      have zwa_7 : wa.cell? ⟨w.heap.size, 7, none⟩ = some (.int .i64 n4) := cell_at hza
      clear hza
      go_wp2_with fail
      have hL2 := heap_alloc_new wa (.cells #[.int .i64 n4, .int .i64 (max 0 n4 % 300)] 3)
      have hbb : Below wa.heap.size wa (wa.alloc (.cells #[.int .i64 n4, .int .i64 (max 0 n4 % 300)] 3)) := (Below.refl _ _).alloc (Nat.le_refl _) _
      generalize max 0 n4 % 300 = n4' at *
      generalize wa.alloc (.cells #[.int .i64 n4, .int .i64 n4'] 3) = wb at *
      have HL2 := Lib.hid hL2
      have HBB := Lib.hid (HBA.out.trans (hbb.mono HBA.out.size))
      have HBAB := Lib.hid hbb
      clear hL2 hbb
      try rw [show decide ((k : Int) < 2) = true from decide_eq_true (by omega)]
      go_loopg [8, 34] 2 (fun g _ i wr => ∃ k : Nat, g = 2 - k ∧ k ≤ 2 ∧ i = .int .i64 k ∧ Below wb.heap.size wb wr)
      case atStart => exact ⟨0, rfl, by omega, rfl, Below.refl _ _⟩
      case round =>
        rename World => wc
        obtain ⟨k', hgk', hk2', rfl, hbw⟩ := hrel
        have HGK' := Lib.hid hgk'
        have HBC := Lib.hid hbw
        clear hgk' hbw
        have HB3C := Lib.hid (HBB.out.trans (HBC.out.mono HBB.out.size))
        by_cases hlt' : k' < 2
        · obtain ⟨y2, -, hy2⟩ := two_at (kept_on HL2.out HBC.out) hlt'
          have hzc := kept_on HZ3.out HB3C.out
          have zwc_8 : wc.cell? ⟨w.heap.size, 8, none⟩ = some (.int .i64 n5) := cell_at hzc
          clear hzc
          go_wp2_with fail
          have hL3 := heap_alloc_new wc (.cells #[.int .i64 n5, .int .i64 (max 0 n5 % 600)] 3)
          have hbd : Below wc.heap.size wc (wc.alloc (.cells #[.int .i64 n5, .int .i64 (max 0 n5 % 600)] 3)) := (Below.refl _ _).alloc (Nat.le_refl _) _
          have hn5' : i64ok (max 0 n5 % 600) := by
            have := Int.emod_lt_of_pos (max 0 n5) (by decide : (0 : Int) < 600)
            have := Int.emod_nonneg (max 0 n5) (by decide : (600 : Int) ≠ 0)
            exact ⟨by omega, by omega⟩
          generalize max 0 n5 % 600 = n5' at *
          generalize wc.alloc (.cells #[.int .i64 n5, .int .i64 n5'] 3) = wd at *
          have HL3 := Lib.hid hL3
          have HBD := Lib.hid (HB3C.out.trans (hbd.mono HB3C.out.size))
          have HBCD := Lib.hid hbd
          have HN5' := Lib.hid hn5'
          clear hL3 hbd hn5'
          try rw [show decide ((k' : Int) < 2) = true from decide_eq_true (by omega)]
          go_loopg [10, 11, 46] 2 (fun g _ _ i wr => ∃ k : Nat, g = 2 - k ∧ k ≤ 2 ∧ i = .int .i64 k ∧ Below wd.heap.size wd wr)
          case atStart => exact ⟨0, rfl, by omega, rfl, Below.refl _ _⟩
          case round =>
            rename World => we
            obtain ⟨k'', hgk'', hk2'', rfl, hbw⟩ := hrel
            have HGK'' := Lib.hid hgk''
            have HBE := Lib.hid hbw
            clear hgk'' hbw
            have HB3E := Lib.hid (HBD.out.trans (HBE.out.mono HBD.out.size))
            by_cases hlt'' : k'' < 2
            · obtain ⟨y3, hy3v, hy3⟩ := two_at (kept_on HL3.out HBE.out) hlt''
              obtain ⟨hy3l, hy3m⟩ : i64ok y3 := by
                rcases hy3v with rfl | rfl
                · exact HN5.out
                · exact HN5'.out
              clear hy3v
              have hTe := kept_on HTB.out HB3E.out
              have HTXE := Lib.hid (HT3.out.below HB3E.out)
              have t0 : we.cell? ⟨w2.heap.size, 0, none⟩ = some (.int .u32 ver2) := cell_at hTe
              have t1 : we.cell? ⟨w2.heap.size, 1, none⟩ = some (.slice a2 N2 c2) := cell_at hTe
              have t2 : we.cell? ⟨w2.heap.size, 2, none⟩ = some (.slice a3 M2 c3) := cell_at hTe
              have t3 : we.cell? ⟨w2.heap.size, 3, none⟩ = some (.int .u32 lock2) := cell_at hTe
              have HTE := Lib.hid hTe
              clear hTe
              go_wp2_with fail
              refine (ripe_any _ ⟨ver2, ins2, outs2, lock2⟩ y1 y2 y3 _ HTXE.out hy3m).mono ?_
              rintro e w5 ⟨rfl, hb5⟩
              have hTf := kept_on HTE.out hb5
              have u0 : w5.cell? ⟨w2.heap.size, 0, none⟩ = some (.int .u32 ver2) := cell_at hTf
              have u1 : w5.cell? ⟨w2.heap.size, 1, none⟩ = some (.slice a2 N2 c2) := cell_at hTf
              have u2 : w5.cell? ⟨w2.heap.size, 2, none⟩ = some (.slice a3 M2 c3) := cell_at hTf
              have u3 : w5.cell? ⟨w2.heap.size, 3, none⟩ = some (.int .u32 lock2) := cell_at hTf
              have HTF := Lib.hid hTf
              have HTX5 := Lib.hid (HTXE.out.below hb5)
              have HB5 := Lib.hid (HBE.out.trans (hb5.mono HBE.out.size))
              clear hTf hb5 t0 t1 t2 t3
              cases hrp : ripeOf ⟨ver2, ins2, outs2, lock2⟩ y1 y2 y3 with
              | false =>
                have HRP := Lib.hid hrp
                clear hrp
                go_wp2_with fail
                refine (rripe_any _ ⟨ver2, ins2, outs2, lock2⟩ y1 y2 y3 _ HTX5.out hy3m).mono ?_
                rintro e w6 ⟨rfl, hb6⟩
                rw [HRP.out]
                have HB6 := Lib.hid (HB5.out.trans (hb6.mono HB5.out.size))
                clear hb6
                go_wp2_with fail
                go_roundg (2 - (k'' + 1))
                case measure => have := HGK''.out; omega
                case rel => exact ⟨k'' + 1, rfl, by omega, by go_num, HB6.out⟩
              | true =>
                have HRP := Lib.hid hrp
                clear hrp
                go_wp2_with fail
                refine (rripe_any _ ⟨ver2, ins2, outs2, lock2⟩ y1 y2 y3 _ HTX5.out hy3m).mono ?_
                rintro e w6 ⟨rfl, hb6⟩
                rw [HRP.out]
                have hTg := kept_on HTF.out hb6
                have v0 : w6.cell? ⟨w2.heap.size, 0, none⟩ = some (.int .u32 ver2) := cell_at hTg
                have v1 : w6.cell? ⟨w2.heap.size, 1, none⟩ = some (.slice a2 N2 c2) := cell_at hTg
                have v2 : w6.cell? ⟨w2.heap.size, 2, none⟩ = some (.slice a3 M2 c3) := cell_at hTg
                have v3 : w6.cell? ⟨w2.heap.size, 3, none⟩ = some (.int .u32 lock2) := cell_at hTg
                have HTX6 := Lib.hid (HTX5.out.below hb6)
                have HB6 := Lib.hid (HB5.out.trans (hb6.mono HB5.out.size))
                clear hTg hb6 u0 u1 u2 u3
                by_cases hmx : y3 < 1000000
                · go_wp2_with fail
                  refine (ripe_any _ ⟨ver2, ins2, outs2, lock2⟩ y1 y2 (y3 + 1) _ HTX6.out (by omega)).mono ?_
                  rintro e w7 ⟨rfl, hb7⟩
                  rw [ripeOf_succ HRP.out hmx]
                  have HB7 := Lib.hid (HB6.out.trans (hb7.mono HB6.out.size))
                  clear hb7
                  go_wp2_with fail
                  go_roundg (2 - (k'' + 1))
                  case measure => have := HGK''.out; omega
                  case rel => exact ⟨k'' + 1, rfl, by omega, by go_num, HB7.out⟩
                · go_wp2_with fail
                  go_roundg (2 - (k'' + 1))
                  case measure => have := HGK''.out; omega
                  case rel => exact ⟨k'' + 1, rfl, by omega, by go_num, HB6.out⟩
            · obtain rfl : k'' = 2 := by omega
              clear hlt''
              go_wp2_with fail
              go_roundg (2 - (k' + 1))
              case measure => have := HGK'.out; omega
              case rel => exact ⟨k' + 1, rfl, by omega, by go_num, HBC.out.trans ((HBCD.out.trans (HBE.out.mono HBCD.out.size)).mono HBC.out.size)⟩
        · obtain rfl : k' = 2 := by omega
          clear hlt'
          go_wp2_with fail
          go_roundg (2 - (k + 1))
          case measure => have := HGK.out; omega
          case rel => exact ⟨k + 1, rfl, by omega, by go_num, HB3C.out⟩
    · obtain rfl : k = 2 := by omega
      clear hlt
      go_wp2_with fail
      refine (wakes_any _).mono ?_
      rintro e w4 ⟨rfl, hb4⟩
      have H4 := Lib.hid (HWA.out.trans (hb4.mono HWA.out.size))
      clear hb4
      go_wp2
      go_ret
      exact ⟨rfl, H4.out⟩
end Go.Proofs.Ytiicigpndagecaa
