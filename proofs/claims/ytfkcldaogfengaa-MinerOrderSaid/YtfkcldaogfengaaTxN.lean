/-
  The document's Check. Conditions: no more than a thousand Outs.
-/
import Derived.Test.YtfkcldaogfengaaTxL
namespace Go.Proofs.Ytfkcldaogfengaa
open Go.RowKit Go.BigFrame
set_option linter.unusedVariables false
set_option linter.unusedSimpArgs false

theorem check_counts {t : PTx} (h : countsOf t = false) : checkOf t = 6 := by unfold checkOf; rw [h]; rfl
theorem check_long {t : PTx} (h : countsOf t = true) (h2 : longOf t = true) : checkOf t = 20 := by unfold checkOf; rw [h, h2]; rfl
theorem check_form {t : PTx} (h : countsOf t = true) (h2 : longOf t = false) (h3 : formedOf t = false) : checkOf t = 4 := by unfold checkOf; rw [h, h2, h3]; rfl
theorem check_dup {t : PTx} (h : countsOf t = true) (h2 : longOf t = false) (h3 : formedOf t = true) (h4 : dup (ptsOf t) = true) : checkOf t = 7 := by unfold checkOf; rw [h, h2, h3, h4]; rfl
theorem check_sum {t : PTx} (h : countsOf t = true) (h2 : longOf t = false) (h3 : formedOf t = true) (h4 : dup (ptsOf t) = false) : checkOf t = (sumOf t).2 := by unfold checkOf; rw [h, h2, h3, h4]; rfl
theorem counts_of {t : PTx} (h : 1 ≤ t.ins.length ∧ t.ins.length ≤ 256 ∧ 1 ≤ t.outs.length ∧ t.outs.length ≤ 256) (hw : (t.ins.any fun x => decide (4 < x.wit.length)) = false) : countsOf t = true := by
  unfold countsOf
  rw [hw, decide_eq_true h.1, decide_eq_true h.2.1, decide_eq_true h.2.2.1, decide_eq_true h.2.2.2]
  rfl
theorem counts_not {t : PTx} (h : ¬ (1 ≤ t.ins.length ∧ t.ins.length ≤ 256 ∧ 1 ≤ t.outs.length ∧ t.outs.length ≤ 256)) : countsOf t = false := by
  cases hc : countsOf t
  · rfl
  · exfalso
    apply h
    unfold countsOf at hc
    simp only [Bool.and_eq_true, decide_eq_true_eq] at hc
    exact ⟨hc.1.1.1, hc.1.1.2, hc.1.2.1, hc.1.2.2⟩
theorem counts_wit {t : PTx} (h : (t.ins.any fun x => decide (4 < x.wit.length)) = true) : countsOf t = false := by
  unfold countsOf
  rw [h]
  simp

theorem ne_step {ps : List Pt} {p z : Pt} {j : Nat} (h : ∀ (l : Nat) (z : Pt), l < j → ps[l]? = some z → z ≠ p) (hz : ps[j]? = some z) (hne : z ≠ p) : ∀ (l : Nat) (z : Pt), l < j + 1 → ps[l]? = some z → z ≠ p := by
  intro l z' hl hz'
  rcases Nat.lt_or_ge l j with h1 | h1
  · exact h l z' h1 hz'
  · obtain rfl : l = j := by omega
    rw [hz] at hz'
    obtain rfl := Option.some.inj hz'
    exact hne
theorem ne_mem {ps : List Pt} {p : Pt} {k : Nat} (h : ∀ (l : Nat) (z : Pt), l < k → ps[l]? = some z → z ≠ p) : p ∉ ps.take k := by
  intro hm
  obtain ⟨l, hl⟩ := List.mem_iff_getElem?.1 hm
  rw [List.getElem?_take] at hl
  by_cases hlk : l < k
  · rw [if_pos hlk] at hl
    exact h l p hlk hl rfl
  · rw [if_neg hlk] at hl
    cases hl

set_option maxRecDepth 100000 in
set_option maxHeartbeats 4000000 in
theorem rcheck_any (v : Value) (t : PTx) (w : World) (hv : TxAt w v t) (hlen : t.outs.length ≤ 1000) : Calls Try.prog 32 #[v] w (CIs (checkOf t) w) := by
  obtain ⟨va, vo, rfl, hia, hob, hv1, hv2⟩ := hv
  obtain ⟨a, c, rfl, hl1, hl2⟩ := hia.shape
  obtain ⟨a', c', rfl, hl1', hl2'⟩ := hob.shape
  rw [maxLen_eq] at hl2 hl2'
  have htb := TB.start hia hob
  have HTB := Lib.hid htb
  have HV := Lib.hid (And.intro hv1 hv2)
  have HL := Lib.hid hlen
  clear htb hia hob hv1 hv2 hlen
  obtain ⟨r, hr⟩ : ∃ r, r = checkOf t := ⟨_, rfl⟩
  rw [← hr]
  have HR := Lib.hid hr
  clear hr
  obtain ⟨n, hn⟩ : ∃ n, n = t.ins.length := ⟨_, rfl⟩
  obtain ⟨n', hn'⟩ : ∃ n, n = t.outs.length := ⟨_, rfl⟩
  rw [← hn, ← hn'] at HTB
  rw [← hn] at hl1 ⊢
  rw [← hn'] at hl1' ⊢
  have HN := Lib.hid hn
  have HN' := Lib.hid hn'
  clear hn hn'
  go_enter Try.func32, Try.ntmps32
  go_upto_region 1 with fail
  generalize w.alloc (.cells #[.int .u32 t.ver, .slice a n c, .slice a' n' c', .int .u32 t.lock] 41) = w0 at *
  have c1 : w0.cell? ⟨w.heap.size, 1, none⟩ = some (.slice a n c) := cell_at HTB.out.box
  have c2 : w0.cell? ⟨w.heap.size, 2, none⟩ = some (.slice a' n' c') := cell_at HTB.out.box
  by_cases hc : 1 ≤ n ∧ n ≤ 256 ∧ 1 ≤ n' ∧ n' ≤ 256
  rotate_left
  · have HF := Lib.hid (check_counts (counts_not (by rw [← HN.out, ← HN'.out]; exact hc)))
    have hnot : ¬ (1 ≤ n) ∨ (1 ≤ n ∧ ¬ n ≤ 256) ∨ (1 ≤ n ∧ n ≤ 256 ∧ ¬ 1 ≤ n') ∨ (1 ≤ n ∧ n ≤ 256 ∧ 1 ≤ n' ∧ ¬ n' ≤ 256) := by omega
    clear hc
    rcases hnot with h1 | ⟨h1, h2⟩ | ⟨h1, h2, h3⟩ | ⟨h1, h2, h3, h4⟩
    · go_wp2_with fail
      go_ret
      exact ⟨by rw [HR.out, HF.out]; rfl, HTB.out.bel⟩
    · go_wp2_with fail
      go_ret
      exact ⟨by rw [HR.out, HF.out]; rfl, HTB.out.bel⟩
    · go_wp2_with fail
      go_ret
      exact ⟨by rw [HR.out, HF.out]; rfl, HTB.out.bel⟩
    · go_wp2_with fail
      go_ret
      exact ⟨by rw [HR.out, HF.out]; rfl, HTB.out.bel⟩
  obtain ⟨h1, h2, h3, h4⟩ := hc
  have HC := Lib.hid (show 1 ≤ t.ins.length ∧ t.ins.length ≤ 256 ∧ 1 ≤ t.outs.length ∧ t.outs.length ≤ 256 by rw [← HN.out, ← HN'.out]; exact ⟨h1, h2, h3, h4⟩)
  go_wp2_with fail
  go_loopg [3] n (fun g i wr => ∃ (k : Nat), g = n - k ∧ k ≤ n ∧ i = .int .i64 k ∧ wr = w0 ∧ ∀ (j : Nat) (y : PIn), j < k → t.ins[j]? = some y → decide (4 < y.wit.length) = false)
  case atStart => exact ⟨0, rfl, by omega, rfl, rfl, fun j y hj => absurd hj (Nat.not_lt_zero _)⟩
  case round =>
    rename World => wo
    obtain ⟨k, hgk, hk, rfl, rfl, hall⟩ := hrel
    have HGK := Lib.hid hgk
    have HALL := Lib.hid hall
    clear hgk hall
    by_cases hlt : k < n
    · obtain ⟨b, o, x, wv, rfl, hx, hseq, hidx, hid, hwv, d0, d1, d2, d3⟩ := HTB.out.ins.inp hlt
      obtain ⟨wa, wc, rfl, hw1, hw2⟩ := hwv.shape
      rw [maxLen_eq] at hw2
      have HX := Lib.hid hx
      clear hx hwv d0 d1 d2
      by_cases h40 : 4 < x.wit.length
      · have HF := Lib.hid (check_counts (counts_wit (any_at (p := fun x : PIn => decide (4 < x.wit.length)) HX.out (decide_eq_true h40))))
        go_wp2_with fail
        go_ret
        exact ⟨by rw [HR.out, HF.out]; rfl, HTB.out.bel⟩
      · have HNX := Lib.hid (before_step HALL.out HX.out (decide_eq_false h40))
        go_wp2_with fail
        go_roundg (n - (k + 1))
        case measure => have := HGK.out; omega
        case rel => exact ⟨k + 1, rfl, by omega, by go_num, rfl, HNX.out⟩
    · obtain rfl : k = n := by omega
      have HO := Lib.hid (counts_of HC.out (any_no HN.out HALL.out))
      clear HALL HGK hlt hk HC
      have c0 : wo.cell? ⟨w.heap.size, 0, none⟩ = some (.int .u32 t.ver) := cell_at HTB.out.box
      have c3 : wo.cell? ⟨w.heap.size, 3, none⟩ = some (.int .u32 t.lock) := cell_at HTB.out.box
      go_wp2_with fail
      refine (rlong_any _ t wo (HTB.out.tx HV.out)).mono ?_
      rintro e w1 ⟨rfl, hb⟩
      have HT1 := Lib.hid (HTB.out.next hb)
      replace c1 := below_cells hb _ _ c1
      clear hb HTB c0 c2 c3
      cases hlg : longOf t
      rotate_left
      · have HF := Lib.hid (check_long HO.out hlg)
        go_wp2_with fail
        go_ret
        exact ⟨by rw [HR.out, HF.out]; rfl, HT1.out.bel⟩
      have HLG := Lib.hid hlg
      clear hlg
      go_wp2_with fail
      go_loopg [5] k (fun g i wr => ∃ (q : Nat), g = k - q ∧ q ≤ k ∧ i = .int .i64 q ∧ TB w (.slice a k c) (.slice a' n' c') t wr ∧ ∀ (j : Nat) (y : PIn), j < q → t.ins[j]? = some y → formIn k y = true)
      case atStart => exact ⟨0, rfl, by omega, rfl, HT1.out, fun j y hj => absurd hj (Nat.not_lt_zero _)⟩
      case round =>
        clear HT1 c1
        rename World => wp
        obtain ⟨q, hgq, hq, rfl, htb, hall⟩ := hrel
        have HGQ := Lib.hid hgq
        have HALL := Lib.hid hall
        have HTB := Lib.hid htb
        have c1 : wp.cell? ⟨w.heap.size, 1, none⟩ = some (.slice a k c) := cell_at htb.box
        clear hgq hall htb
        by_cases hlt : q < k
        · obtain ⟨b, o, x, wv, rfl, hx, hseq, hidx, hid, hwv, d0, d1, d2, d3⟩ := HTB.out.ins.inp hlt
          have HX := Lib.hid hx
          clear hx hwv d2 d3
          go_wp2_with fail
          refine (rbase_any x.id x.idx hidx hid wp).mono ?_
          rintro e w2 ⟨rfl, hb⟩
          have HT2 := Lib.hid (HTB.out.next hb)
          replace c1 := below_cells hb _ _ c1
          replace d0 := below_cells hb _ _ d0
          clear hb HTB d1
          cases hbs : isBase x.id x.idx
          · by_cases h32 : x.id.size = 32
            · have hz0 : (x.id.size : Int) = 32 := by omega
              have HNX := Lib.hid (all_step HALL.out HX.out (by unfold formIn; rw [decide_eq_true h32, hbs]; rfl))
              go_wp2_with fail
              go_roundg (k - (q + 1))
              case measure => have := HGQ.out; omega
              case rel => exact ⟨q + 1, rfl, by omega, by go_num, HT2.out, HNX.out⟩
            · have hz0 : (x.id.size : Int) ≠ 32 := by omega
              have HF := Lib.hid (check_form HO.out HLG.out (all_no HX.out (show formIn t.ins.length x = false by unfold formIn; rw [decide_eq_false h32, Bool.false_and])))
              go_wp2_with fail
              go_ret
              exact ⟨by rw [HR.out, HF.out]; rfl, HT2.out.bel⟩
          · by_cases h32 : x.id.size = 32
            · have hz0 : (x.id.size : Int) = 32 := by omega
              by_cases hk1 : 1 < k
              · have HF := Lib.hid (check_form HO.out HLG.out (all_no HX.out (show formIn t.ins.length x = false by unfold formIn; rw [decide_eq_true h32, hbs, ← HN.out, decide_eq_true hk1]; rfl)))
                go_wp2_with fail
                go_ret
                exact ⟨by rw [HR.out, HF.out]; rfl, HT2.out.bel⟩
              · have HNX := Lib.hid (all_step HALL.out HX.out (by unfold formIn; rw [decide_eq_true h32, hbs, decide_eq_false hk1]; rfl))
                go_wp2_with fail
                go_roundg (k - (q + 1))
                case measure => have := HGQ.out; omega
                case rel => exact ⟨q + 1, rfl, by omega, by go_num, HT2.out, HNX.out⟩
            · have hz0 : (x.id.size : Int) ≠ 32 := by omega
              have HF := Lib.hid (check_form HO.out HLG.out (all_no HX.out (show formIn t.ins.length x = false by unfold formIn; rw [decide_eq_false h32, Bool.false_and])))
              go_wp2_with fail
              go_ret
              exact ⟨by rw [HR.out, HF.out]; rfl, HT2.out.bel⟩
        · obtain rfl : q = k := by omega
          have HFO := Lib.hid (show formedOf t = true by unfold formedOf; rw [← HN.out]; exact all_yes HN.out HALL.out)
          clear HALL HGQ hlt hq
          obtain ⟨ps, hps⟩ : ∃ ps, ps = ptsOf t := ⟨_, rfl⟩
          have hpsl : ∀ (j : Nat) (z : PIn), t.ins[j]? = some z → ps[j]? = some (z.id, z.idx) := fun j z hz => by rw [hps]; unfold ptsOf; rw [List.getElem?_map, hz]; rfl
          have HPL := Lib.hid hpsl
          have HPS := Lib.hid hps
          clear hpsl hps
          go_wp2_with fail
          go_loopg [7] q (fun g i wr => ∃ (k : Nat), g = q - k ∧ k ≤ q ∧ i = .int .i64 k ∧ TB w (.slice a q c) (.slice a' n' c') t wr ∧ (ps.take k).Nodup)
          case atStart => exact ⟨0, rfl, by omega, rfl, HTB.out, List.nodup_nil⟩
          case round =>
            clear HTB c1
            rename World => wq
            obtain ⟨k, hgk, hk, rfl, htb, hnd⟩ := hrel
            have HGK := Lib.hid hgk
            have HND := Lib.hid hnd
            have HTB := Lib.hid htb
            have c1 : wq.cell? ⟨w.heap.size, 1, none⟩ = some (.slice a q c) := cell_at htb.box
            clear hgk hnd htb
            by_cases hlt : k < q
            · obtain ⟨b, o, x, wv, rfl, hx, -, hidx, hid, hwv, -, -, -, -⟩ := HTB.out.ins.inp hlt
              have HX := Lib.hid hx
              clear hx hwv
              go_wp2_with fail
              go_loopg [8] k (fun g i wr => ∃ (j : Nat), g = k - j ∧ j ≤ k ∧ i = .int .i64 j ∧ TB w (.slice (some ⟨b, o, none⟩) q c) (.slice a' n' c') t wr ∧ ∀ (l : Nat) (z : Pt), l < j → ps[l]? = some z → z ≠ (x.id, x.idx))
              case atStart => exact ⟨0, rfl, by omega, rfl, HTB.out, fun l z hl => absurd hl (Nat.not_lt_zero _)⟩
              case round =>
                clear HTB c1
                rename World => wr
                obtain ⟨j, hgj, hj, rfl, htb, hall⟩ := hrel
                have HGJ := Lib.hid hgj
                have HALL := Lib.hid hall
                have HTB := Lib.hid htb
                have c1 : wr.cell? ⟨w.heap.size, 1, none⟩ = some (.slice (some ⟨b, o, none⟩) q c) := cell_at htb.box
                clear hgj hall htb
                by_cases hjk : j < k
                · obtain ⟨b2, o2, x2, wv2, hbo, hx2, -, -, -, -, d0, d1, -, -⟩ := HTB.out.ins.inp hlt
                  obtain ⟨rfl, rfl⟩ : b = b2 ∧ o = o2 := by simpa using hbo
                  obtain rfl : x = x2 := by have h := HX.out; rw [hx2] at h; exact (Option.some.inj h).symm
                  obtain ⟨b2, o2, y, wv2, hbo, hy, -, -, -, -, e0, e1, -, -⟩ := HTB.out.ins.inp (show j < q by omega)
                  obtain ⟨rfl, rfl⟩ : b = b2 ∧ o = o2 := by simpa using hbo
                  have HY := Lib.hid hy
                  clear hbo hx2 hy
                  have hkin : (0 : Int) ≤ (k : Int) := by omega
                  have hkiq : (k : Int) < (q : Int) := by omega
                  have hjin : (0 : Int) ≤ (j : Int) := by omega
                  have hjiq : (j : Int) < (q : Int) := by omega
                  by_cases hid1 : x.id = y.id
                  · rw [← hid1] at e0
                    by_cases hix : x.idx = y.idx
                    · rw [← hix] at e1
                      have HF := Lib.hid (check_dup HO.out HLG.out HFO.out (dup_yes (by
                        rw [← HPS.out]
                        refine nodup_not (HPL.out _ _ HX.out) ?_
                        have h1 := HPL.out _ _ HY.out
                        rw [← hid1, ← hix] at h1
                        exact List.mem_of_getElem? (i := j) (by rw [List.getElem?_take, if_pos hjk]; exact h1))))
                      go_wp2_with fail
                      go_quiet (fail)
                      have HTZ := Lib.hid (HTB.out.next (w' := wr.drewN nq) ⟨rfl, rfl, rfl, Nat.le_refl _, fun _ _ => rfl⟩)
                      go_wp2_with fail
                      go_ret
                      exact ⟨by rw [HR.out, HF.out]; rfl, HTZ.out.bel⟩
                    · have hne : (x.idx : Int) ≠ y.idx := by omega
                      have HNX := Lib.hid (ne_step HALL.out (HPL.out _ _ HY.out) (fun h => hix (congrArg Prod.snd h).symm))
                      go_wp2_with fail
                      go_quiet (fail)
                      have HTZ := Lib.hid (HTB.out.next (w' := wr.drewN nq) ⟨rfl, rfl, rfl, Nat.le_refl _, fun _ _ => rfl⟩)
                      go_wp2_with fail
                      go_roundg (k - (j + 1))
                      case measure => have := HGJ.out; omega
                      case rel => exact ⟨j + 1, rfl, by omega, by go_num, HTZ.out, HNX.out⟩
                  · have hbe : (x.id.toList == y.id.toList) = false := by
                      rw [ByteArray.toList_eq, ByteArray.toList_eq, beq_eq_false_iff_ne]
                      intro h
                      exact hid1 (by cases hx : x.id; cases hy : y.id; rw [hx, hy] at h; simp at h; rw [h])
                    have HNX := Lib.hid (ne_step HALL.out (HPL.out _ _ HY.out) (fun h => hid1 (congrArg Prod.fst h).symm))
                    go_wp2_with fail
                    go_quiet (fail)
                    have HTZ := Lib.hid (HTB.out.next (w' := wr.drewN nq) ⟨rfl, rfl, rfl, Nat.le_refl _, fun _ _ => rfl⟩)
                    go_wp2_with fail
                    go_roundg (k - (j + 1))
                    case measure => have := HGJ.out; omega
                    case rel => exact ⟨j + 1, rfl, by omega, by go_num, HTZ.out, HNX.out⟩
                · obtain rfl : j = k := by omega
                  have HNX := Lib.hid (nodup_step HND.out (HPL.out _ _ HX.out) (ne_mem HALL.out))
                  go_wp2_with fail
                  go_roundg (q - (j + 1))
                  case measure => have := HGK.out; omega
                  case rel => exact ⟨j + 1, rfl, by omega, by go_num, HTB.out, HNX.out⟩
            · obtain rfl : k = q := by omega
              have hpl : ps.take k = ps := List.take_of_length_le (by rw [HPS.out, HN.out]; unfold ptsOf; rw [List.length_map]; exact Nat.le_refl _)
              have HD := Lib.hid (show dup (ptsOf t) = false by rw [← HPS.out]; exact dup_no (hpl ▸ HND.out))
              have HF := Lib.hid (check_sum HO.out HLG.out HFO.out HD.out)
              have c0 : wq.cell? ⟨w.heap.size, 0, none⟩ = some (.int .u32 t.ver) := cell_at HTB.out.box
              have c2 : wq.cell? ⟨w.heap.size, 2, none⟩ = some (.slice a' n' c') := cell_at HTB.out.box
              have c3 : wq.cell? ⟨w.heap.size, 3, none⟩ = some (.int .u32 t.lock) := cell_at HTB.out.box
              clear hpl
              go_wp2_with fail
              refine (rtotal_any _ t wq (HTB.out.tx HV.out) HL.out).mono ?_
              rintro e w5 ⟨rfl, hb⟩
              have HT5 := Lib.hid (HTB.out.next hb)
              have HSM := Lib.hid (show sumOf t = sumA 0 (t.outs.map (·.val)) from rfl)
              rw [← HSM.out]
              generalize sumOf t = sm at *
              clear hb
              go_wp2_with fail
              go_ret
              exact ⟨by rw [HR.out, HF.out]; rfl, HT5.out.bel⟩
end Go.Proofs.Ytfkcldaogfengaa
