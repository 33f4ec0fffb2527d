/-
  The document's claims of a bucket. Conditions: no more than twenty claims, which lie in memory.
-/
import Derived.Test.YtmakghcoehkphaaGreatKq
import Derived.Test.YtmakghcoehkphaaGreatQ4ClaimBuilds
import Derived.Test.YtmakghcoehkphaaGreatCut
namespace Go.Proofs.YtmakghcoehkphaaGreat
open Go.RowKit Go.BigFrame
set_option linter.unusedVariables false
set_option linter.unusedSimpArgs false

/-- A claim more in a row of one's own. -/
theorem ClsOwn.app {base n : Nat} {a : Option Addr} {c : Nat} {w : World} {l : List PCl} {x : PCl} (h : ClsOwn base w (.slice a n c) l) (hn : l.length = n) (hl : n ≤ 1000) (hb : base ≤ w.heap.size) (hx : x.Ok) :
    ∃ a' c' w', (Builtin.append_ #[22, 22] 22 #[.slice a n c, .slice (some ⟨w.heap.size, 0, none⟩) 1 1]).run Tryz.prog (w.alloc (.cells #[.string x.id, .int .u32 x.idx, .int .i64 x.val, .int .i64 x.br, .int .u16 x.lock.tag, .int .u16 x.lock.delay, .int .u32 x.lock.height, .int .i64 x.dead] 34)) = .ok (.slice a' (n + 1) c') w' ∧
      ClsOwn base w' (.slice a' (n + 1) c') (l ++ [x]) ∧ Below base w w' := by
  subst hn
  obtain ⟨i0, hi, hz0, hz1, hz2⟩ := info_parts info_cl
  obtain ⟨a8, c8, w6, hrun, hown6, hb6, -, -⟩ := append_one (P := Tryz.prog) Tryz.underlying22 hi hz0 hz1 hz2 rfl h.row #[.string x.id, .int .u32 x.idx, .int .i64 x.val, .int .i64 x.br, .int .u16 x.lock.tag, .int .u16 x.lock.delay, .int .u32 x.lock.height, .int .i64 x.dead] rfl (by simp [Value.oneCell']) (by rw [maxLen_eq]; omega) (by omega) hb (ty := 22)
  exact ⟨a8, c8, w6, hrun, ClsOwn.snoc (w := w) h.ok hx hown6, hb6⟩
def OfGIs (gs : List PCl) (w : World) (e : Ending) (w' : World) : Prop := ∃ v, e = .returned v ∧ ClsOwn w.heap.size w' v gs ∧ Below w.heap.size w w'
theorem nextL_len {α : Type} (c : α) (out : List α) (p k : Nat) (hk : k ≤ out.length) (hp : p ≤ out.length) : (nextL c out p k).length = if p < k then k + 1 else k := by
  unfold nextL
  split
  · simp; omega
  · simp; omega
set_option maxRecDepth 100000 in
set_option maxHeartbeats 8000000 in
theorem rof_any (v : Value) (l : List PCl) (bb : Int) (w : World) (hv : SlAt rpCl w v l) (hlen : l.length ≤ 20) (hbb : 0 ≤ bb) : Calls Tryz.prog 56 #[v, .int .i64 bb] w (OfGIs (ofG bkC ltC l bb) w) := by
  have HSL := Lib.hid hv
  obtain ⟨a, c, rfl, hl1, hl2⟩ := hv.shape
  rw [maxLen_eq] at hl2
  obtain ⟨n, hn⟩ : ∃ n, n = l.length := ⟨_, rfl⟩
  rw [← hn] at hl1 HSL hlen ⊢
  have HN := Lib.hid hn
  have HLEN := Lib.hid hlen
  clear hn hv hlen
  go_enter Tryz.func56, Tryz.ntmps56
  go_wp2_with fail
  go_loopg [5, 6] n (fun g r i wr => ∃ (k : Nat) (r0 : Value), r = r0 ∧ g = n - k ∧ k ≤ n ∧ i = .int .i64 k ∧ Below w.heap.size w wr ∧ ClsOwn w.heap.size wr r0 (ofG bkC ltC (l.take k) bb))
  case atStart => exact ⟨0, _, rfl, rfl, by omega, rfl, Below.refl _ _, clsOwn_nil _ _⟩
  case round =>
    rename World => wo
    obtain ⟨k, r0, hr0, hgk, hk, rfl, hb, hown⟩ := hrel
    obtain rfl := hr0.symm
    have HGK := Lib.hid hgk
    have HB := Lib.hid hb
    have HOW := Lib.hid hown
    clear hgk hb hown
    by_cases hlt : k < n
    · obtain ⟨sb, so, x, rfl, hx, hok, hcl⟩ := HSL.out.cl hlt
      have HCL := Lib.hid hcl
      have HOK := Lib.hid hok
      have HTK := Lib.hid (take_snoc hx)
      have d7 := (HCL.out.below HB.out).c7
      have HBK := Lib.hid (rbucket_any x.dead wo)
      have HBX := Lib.hid (show bkC x = bktOf x.dead from rfl)
      rw [← HBX.out] at HBK
      have HSN := Lib.hid (ofG_snoc (bk := bkC) (lt := ltC) (l.take k) x bb)
      obtain ⟨bx, hbx⟩ : ∃ q, q = bkC x := ⟨_, rfl⟩
      rw [← hbx] at HBK HSN
      clear hx hok hcl hbx
      go_wp2_with fail
      refine HBK.out.mono ?_
      rintro e w' ⟨rfl, rfl⟩
      clear HBK d7
      by_cases hbe : bx = bb
      rotate_left
      · have HS := Lib.hid (show ofG bkC ltC (l.take (k + 1)) bb = ofG bkC ltC (l.take k) bb by rw [HTK.out, HSN.out, if_neg hbe])
        have hne : (bx == bb) = false := by simpa using hbe
        go_wp2_with fail
        go_roundg (n - (k + 1))
        case measure => have := HGK.out; omega
        case rel => exact ⟨k + 1, _, rfl, rfl, by omega, by go_num, HB.out, by rw [HS.out]; exact HOW.out⟩
      · have HS := Lib.hid (show ofG bkC ltC (l.take (k + 1)) bb = insR ltC x (ofG bkC ltC (l.take k) bb) by rw [HTK.out, HSN.out, if_pos hbe])
        subst hbe
        have hml : (ofG bkC ltC (l.take k) bx).length ≤ 20 := by rw [ofG_len]; have := List.length_filter_le (fun c => decide (bkC c = bx)) (l.take k); rw [List.length_take] at this; have := HLEN.out; omega
        obtain ⟨out, hout⟩ : ∃ q, q = ofG bkC ltC (l.take k) bx := ⟨_, rfl⟩
        rw [← hout] at HOW HS hml
        obtain ⟨m, hm⟩ : ∃ q, q = out.length := ⟨_, rfl⟩
        rw [← hm] at hml
        have HM := Lib.hid hm
        obtain ⟨ra, rc, hr, -, -⟩ := ownsRow_shape HOW.out.row
        subst hr
        rw [← hm]
        clear hout hm HSN
        go_wp2_with fail
        go_loopg [8, 9] m (fun g at_ i wr => ∃ j : Nat, g = j ∧ j ≤ m ∧ at_ = .int .i64 (placeFrom ltC x out j) ∧ i = .int .i64 ((j : Int) - 1) ∧ Below wo.heap.size wo wr)
        case atStart => exact ⟨m, rfl, Nat.le_refl _, by rw [HM.out, placeFrom_end], rfl, Below.refl _ _⟩
        case round =>
          rename World => wi
          obtain ⟨j, hgj, hj, rfl, rfl, hbi⟩ := hrel
          have HGJ := Lib.hid hgj
          have HBI := Lib.hid hbi
          clear hgj hbi
          obtain ⟨pj, hpj⟩ : ∃ q, q = placeFrom ltC x out j := ⟨_, rfl⟩
          rw [← hpj]
          have HPJ := Lib.hid hpj
          clear hpj
          by_cases hj0 : j = 0
          rotate_left
          · obtain ⟨q, hq⟩ : ∃ q, q + 1 = j := ⟨j - 1, by omega⟩
            have hj1 : (j : Int) - 1 = (q : Int) := by omega
            rw [hj1]
            obtain ⟨y, hy⟩ : ∃ y, out[q]? = some y := ⟨_, List.getElem?_eq_getElem (by rw [← HM.out]; omega)⟩
            have HST := Lib.hid (placeFrom_step (lt := ltC) x hy)
            obtain ⟨g, hg, hg1, hg2⟩ := ownsRow_some HOW.out.row (by rw [← HM.out]; omega)
            subst hg
            have hoi := HOW.out.below HBI.out
            obtain ⟨y0, y1, -, -, -, -, -, -⟩ := hoi.at hy
            have d0 := (HCL.out.below (HB.out.trans (HBI.out.mono HB.out.size))).c0
            have d1 := (HCL.out.below (HB.out.trans (HBI.out.mono HB.out.size))).c1
            have hqm : q < m := by omega
            have HQ := Lib.hid hq
            have HLE := Lib.hid (fun u => rless_any (x.id, x.idx) (y.id, y.idx) u)
            rw [show lessPt (x.id, x.idx) (y.id, y.idx) = ltC x y from rfl] at HLE
            have hq0 : (0 : Int) ≤ (q : Int) := by omega
            clear hq hj1 hy hoi hj0
            go_upto_region 11 with fail
            cases hlt2 : ltC x y
            · rw [hlt2] at HLE
              have HPQ := Lib.hid (show placeFrom ltC x out q = pj by rw [HST.out, hlt2, HQ.out, HPJ.out]; simp)
              clear hlt2
              obtain ⟨C, hC⟩ : ∃ C : World → Prop, C = fun w' => Below wi.heap.size wi w' := ⟨_, rfl⟩
              have kd0 := kin_cell hC d0
              have kd1 := kin_cell hC d1
              have ky0 := kin_cell hC y0
              have ky1 := kin_cell hC y1
              have QNc := Lib.hid (kin_call hC fun y h => HLE.out y)
              have HC := Lib.hid hC
              clear hC
              refine wp_region_kin C (by kernel_rfl) (by kernel_rfl) (by rw [HC.out]; exact ⟨rfl, rfl, rfl, Nat.le_refl _, fun _ _ => rfl⟩) ?_
              intro hne
              repeat (first | (go_big_quiet_step ((rename_i y; go_at_call 86; exact Calls.kin (QNc.out y) (fun w' h => h)))) | (quiet_step ((rename_i y; go_at_call 86; exact Calls.kin (QNc.out y) (fun w' h => h)))))
              refine wpQuiet_nil ?_
              intro _ hw'
              obtain ⟨kx, hw''⟩ := hw'
              subst hw''
              obtain ⟨w1, hxc⟩ := kx
              rw [HC.out] at hxc
              clear HC hne kd0 kd1 ky0 ky1
              have HB1 := Lib.hid (HBI.out.trans (hxc.mono HBI.out.size))
              clear hxc d0 d1 y0 y1
              go_wp2_with fail
              go_roundg q
              case measure => have := HGJ.out; have := HQ.out; omega
              case rel => exact ⟨q, rfl, by omega, by rw [HPQ.out], by go_num, HB1.out⟩
            · rw [hlt2] at HLE
              have HPQ := Lib.hid (show placeFrom ltC x out q = q by rw [HST.out, hlt2]; simp)
              clear hlt2
              obtain ⟨C, hC⟩ : ∃ C : World → Prop, C = fun w' => Below wi.heap.size wi w' := ⟨_, rfl⟩
              have kd0 := kin_cell hC d0
              have kd1 := kin_cell hC d1
              have ky0 := kin_cell hC y0
              have ky1 := kin_cell hC y1
              have QNc := Lib.hid (kin_call hC fun y h => HLE.out y)
              have HC := Lib.hid hC
              clear hC
              refine wp_region_kin C (by kernel_rfl) (by kernel_rfl) (by rw [HC.out]; exact ⟨rfl, rfl, rfl, Nat.le_refl _, fun _ _ => rfl⟩) ?_
              intro hne
              repeat (first | (go_big_quiet_step ((rename_i y; go_at_call 86; exact Calls.kin (QNc.out y) (fun w' h => h)))) | (quiet_step ((rename_i y; go_at_call 86; exact Calls.kin (QNc.out y) (fun w' h => h)))))
              refine wpQuiet_nil ?_
              intro _ hw'
              obtain ⟨kx, hw''⟩ := hw'
              subst hw''
              obtain ⟨w1, hxc⟩ := kx
              rw [HC.out] at hxc
              clear HC hne kd0 kd1 ky0 ky1
              have HB1 := Lib.hid (HBI.out.trans (hxc.mono HBI.out.size))
              clear hxc d0 d1 y0 y1
              go_wp2_with fail
              go_roundg q
              case measure => have := HGJ.out; have := HQ.out; omega
              case rel => exact ⟨q, rfl, by omega, by rw [HPQ.out], by go_num, HB1.out⟩
          · have HPL := Lib.hid (show pj = placeOf ltC x out by rw [HPJ.out, hj0, placeFrom_zero])
            have HPM := Lib.hid (show placeOf ltC x out ≤ m by rw [HM.out]; exact place_le x out)
            subst hj0
            have HEND := Lib.hid (nextL_end (lt := ltC) x out)
            rw [← HPL.out] at HEND HPM
            have HOI := Lib.hid (HOW.out.below HBI.out)
            have HB := Lib.hid (HB.out.trans (HBI.out.mono HB.out.size))
            have hsz := HB.out.size
            clear HPJ HGJ HPL
            go_wp2_with fail
            go_loopg [11, 12] m (fun g nv i wr => ∃ (j : Nat) (r1 : Value), nv = r1 ∧ g = m - j ∧ j ≤ m ∧ i = .int .i64 j ∧ Below wi.heap.size wi wr ∧ ClsOwn wi.heap.size wr r1 (nextL x out pj j))
            case atStart => exact ⟨0, _, rfl, rfl, by omega, rfl, Below.refl _ _, by rw [nextL_zero]; exact clsOwn_nil _ _⟩
            case round =>
              rename World => wp
              obtain ⟨j, r1, hr1, hgj, hj, rfl, hbp, hown1⟩ := hrel
              obtain rfl := hr1.symm
              have HGJ := Lib.hid hgj
              have HBP := Lib.hid hbp
              have HOW1 := Lib.hid hown1
              have HOP := Lib.hid (HOI.out.below hbp)
              have hlen1 := nextL_len x out pj j (by rw [← HM.out]; exact hj) (by rw [← HM.out]; exact HPM.out)
              have HBW := Lib.hid (HB.out.trans (hbp.mono HB.out.size))
              clear hgj hbp hown1
              obtain ⟨a1, c1, hr2, -, -⟩ := ownsRow_shape HOW1.out.row
              subst hr2
              obtain ⟨n1, hn1⟩ : ∃ q, q = (nextL x out pj j).length := ⟨_, rfl⟩
              rw [← hn1] at hlen1 HOW1 ⊢
              have HN1 := Lib.hid hn1
              have hn20 : n1 ≤ 30 := by rw [hlen1]; split <;> omega
              clear hn1 hlen1
              obtain ⟨d0, d1, d2, d3, d4, d5, d6, d7⟩ := HCL.out.below HBW.out
              by_cases hjm : j < m
              · obtain ⟨y, hy⟩ : ∃ y, out[j]? = some y := ⟨_, List.getElem?_eq_getElem (by rw [← HM.out]; omega)⟩
                have HNS := Lib.hid (nextL_step (p := pj) x hy)
                obtain ⟨g, hg, hg1, hg2⟩ := ownsRow_some HOI.out.row (by rw [← HM.out]; omega)
                subst hg
                have HYA := Lib.hid (HOI.out.at hy)
                have HYO := Lib.hid (HOI.out.ok y (List.mem_of_getElem? hy))
                clear hy
                by_cases hje : j = pj
                · subst hje
                  obtain ⟨a2, c2, w2, hrun, hown2, hb2⟩ := HOW1.out.app HN1.out.symm (by omega) HBP.out.size HOK.out
                  have hbp2 := HBP.out.trans hb2
                  obtain ⟨y0, y1, y2, y3, y4, y5, y6, y7⟩ := HYA.out.below hbp2
                  obtain ⟨a3, c3, w3, hrun3, hown3, hb3⟩ := hown2.app (n := n1 + 1) (by rw [List.length_append, ← HN1.out]; rfl) (by omega) hbp2.size HYO.out
                  have HR2 := Lib.hid hrun
                  have HR3 := Lib.hid hrun3
                  have HB3 := Lib.hid (hbp2.trans hb3)
                  have HO3 := Lib.hid (show ClsOwn wi.heap.size w3 (.slice a3 (n1 + 1 + 1) c3) (nextL x out j (j + 1)) from by
                    rw [HNS.out, if_pos rfl]; exact hown3)
                  clear hrun hown2 hb2 hbp2 hrun3 hown3 hb3
                  go_upto_region 20 with (at_builtin; refine wpList_append_run rfl (.tmp 59) (.tmp 64) 22 22 rfl rfl rfl HR2.out ?_)
                  go_wp2_with (at_builtin; refine wpList_append_run rfl (.tmp 66) (.tmp 71) 22 22 rfl rfl rfl HR3.out ?_)
                  go_roundg (m - (j + 1))
                  case measure => have := HGJ.out; omega
                  case rel => exact ⟨j + 1, _, rfl, rfl, by omega, by go_num, HB3.out, HO3.out⟩
                · obtain ⟨y0, y1, y2, y3, y4, y5, y6, y7⟩ := HYA.out.below HBP.out
                  obtain ⟨a3, c3, w3, hrun3, hown3, hb3⟩ := HOW1.out.app HN1.out.symm (by omega) HBP.out.size HYO.out
                  have HR3 := Lib.hid hrun3
                  have HB3 := Lib.hid (HBP.out.trans hb3)
                  have HO3 := Lib.hid (show ClsOwn wi.heap.size w3 (.slice a3 (n1 + 1) c3) (nextL x out pj (j + 1)) from by
                    rw [HNS.out, if_neg hje]; exact hown3)
                  have hjb : ((j : Int) == (pj : Int)) = false := by rw [beq_eq_false_iff_ne]; omega
                  have hjc : ¬ (j : Int) = (pj : Int) := by omega
                  clear hrun3 hown3 hb3
                  go_wp2_with (at_builtin; refine wpList_append_run rfl (.tmp 66) (.tmp 71) 22 22 rfl rfl rfl HR3.out ?_)
                  go_roundg (m - (j + 1))
                  case measure => have := HGJ.out; omega
                  case rel => exact ⟨j + 1, _, rfl, rfl, by omega, by go_num, HB3.out, HO3.out⟩
              · obtain rfl : m = j := by omega
                by_cases hpe : pj = m
                · subst hpe
                  obtain ⟨a2, c2, w2, hrun, hown2, hb2⟩ := HOW1.out.app HN1.out.symm (by omega) HBP.out.size HOK.out
                  have HR2 := Lib.hid hrun
                  have HB2 := Lib.hid (HB.out.trans ((HBP.out.trans hb2).mono hsz))
                  have HF := Lib.hid (show ClsOwn w.heap.size w2 (.slice a2 (n1 + 1) c2) (ofG bkC ltC (l.take (k + 1)) bx) from by
                    rw [HS.out, ← HEND.out, if_pos HM.out, ← HM.out]
                    exact hown2.base hsz)
                  clear hrun hown2 hb2
                  go_wp2_with (at_builtin; refine wpList_append_run rfl (.tmp 77) (.tmp 82) 22 22 rfl rfl rfl HR2.out ?_)
                  go_roundg (n - (k + 1))
                  case measure => have := HGK.out; omega
                  case rel => exact ⟨k + 1, _, rfl, rfl, by omega, by go_num, HB2.out, HF.out⟩
                · have HF := Lib.hid (show ClsOwn w.heap.size wp (.slice a1 n1 c1) (ofG bkC ltC (l.take (k + 1)) bx) from by
                    rw [HS.out, ← HEND.out, if_neg (fun e => hpe (e.trans HM.out.symm)), ← HM.out]
                    exact HOW1.out.base hsz)
                  have hjb : ((pj : Int) == (m : Int)) = false := by rw [beq_eq_false_iff_ne]; omega
                  have hjc : ¬ (pj : Int) = (m : Int) := by omega
                  go_wp2_with fail
                  go_roundg (n - (k + 1))
                  case measure => have := HGK.out; omega
                  case rel => exact ⟨k + 1, _, rfl, rfl, by omega, by go_num, HBW.out, HF.out⟩
    · obtain rfl : n = k := by omega
      have HF := Lib.hid (show OfGIs (ofG bkC ltC l bb) w (.returned r0) wo from ⟨r0, rfl, by
        have h := HOW.out
        rw [List.take_of_length_le (by rw [HN.out]; exact Nat.le_refl _)] at h
        exact h, HB.out⟩)
      go_wp2_with fail
      go_ret
      exact HF.out
end Go.Proofs.YtmakghcoehkphaaGreat
