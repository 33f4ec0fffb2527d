/-
  MinerOrder, part 5: the texts Mo, Mw, M1, M5, Mz, M3, one after another. Conditions: none beyond those named at each.
-/
import Derived.Test.YtfkcldaogfengaaQ4MinerOrder
import Derived.Test.YtfkcldaogfengaaQ3MinerOrder
import Derived.Test.YtfkcldaogfengaaQ1MinerOrder
import Derived.Maps.OwnSet
import Derived.Maps.OwnOps
section
/-
  The document's Template: the walk. Conditions: the entries, of bounded fees and sizes, lie in memory.
-/
namespace Go.Proofs.Ytfkcldaogfengaa
open Go.RowKit Go.BigFrame
set_option linter.unusedVariables false
set_option linter.unusedSimpArgs false

def OrdP (l : List PE) (q : List Nat) (w : World) (e : Ending) (w' : World) : Prop := ∃ v, e = .returned v ∧ NatRow w.heap.size w' v q ∧ Below w.heap.size w w'
set_option maxRecDepth 100000 in
set_option maxHeartbeats 4000000 in
theorem template21_any (sl : Value) (l : List PE) (thr m0 : Int) (w : World) (hsl : SlAt rpE w sl l) (hz : Sized l) (hm0 : -9223372036854775808 ≤ m0 ∧ m0 ≤ 9223372036854775807) :
    Calls Try.prog 14 #[sl, .int .i64 thr, .int .i64 m0] w (OrdP l (tmplL l thr m0) w) := by
  have HSL := Lib.hid hsl
  have HZ := Lib.hid hz
  have HM0 := Lib.hid hm0
  obtain ⟨a, c, rfl, hl1, hl2⟩ := hsl.shape
  rw [maxLen_eq] at hl2
  obtain ⟨n, hn⟩ : ∃ n, n = l.length := ⟨_, rfl⟩
  have hn12 : n ≤ 12 := by rw [hn]; exact hz.len
  rw [← hn] at hl1 HSL ⊢
  have HN := Lib.hid hn
  obtain ⟨w1, hmk1, hrow1, hb1⟩ := mk_bools w n (by omega)
  obtain ⟨w2, hmk2, hrow2, hb2⟩ := mk_bools w1 n (by omega)
  obtain ⟨A, hA⟩ : ∃ A, A = w.heap.size := ⟨_, rfl⟩
  obtain ⟨B, hB⟩ : ∃ B, B = w1.heap.size := ⟨_, rfl⟩
  obtain ⟨C, hC⟩ : ∃ C, C = w2.heap.size := ⟨_, rfl⟩
  have hst : DT w n A B C (.slice none 0 0) (tb n []) (tb n []) [] w2 := by
    rw [tb_nil, hA, hB, hC]
    refine ⟨hb1.trans (hb2.mono hb1.size), ⟨Nat.le_refl _, ?_, ?_, Nat.le_refl _⟩, hrow1.below hb2, hrow2, NatRow.nil _ _⟩
    · by_cases h0 : n = 0
      · subst h0
        rcases hrow1.2 with ⟨e, -⟩ | ⟨g, cap, cur, e, hg, hgb, -⟩
        · cases e
        · obtain rfl : w.heap.size = g := by injection e with e; injection e with e; injection e
          exact (Array.getElem?_eq_some_iff.1 hgb).1
      · obtain ⟨b, e, h1, h2⟩ := ownsRow_some (n := n) (by have h := hrow1; unfold BlRow at h; rw [List.length_replicate] at h; exact h) (by omega)
        obtain rfl : w.heap.size = b := by injection e with e; injection e
        exact h2
    · by_cases h0 : n = 0
      · subst h0
        rcases hrow2.2 with ⟨e, -⟩ | ⟨g, cap, cur, e, hg, hgb, -⟩
        · cases e
        · obtain rfl : w1.heap.size = g := by injection e with e; injection e with e; injection e
          exact (Array.getElem?_eq_some_iff.1 hgb).1
      · obtain ⟨b, e, h1, h2⟩ := ownsRow_some (n := n) (by have h := hrow2; unfold BlRow at h; rw [List.length_replicate] at h; exact h) (by omega)
        obtain rfl : w1.heap.size = b := by injection e with e; injection e
        exact h2
  rw [← hA] at hmk1
  rw [← hB] at hmk2
  have HST := Lib.hid hst
  have HAW := Lib.hid hA
  clear hsl hz hn hm0 hst hrow1 hrow2 hb1 hb2 hA hB hC
  go_enter Try.func14, Try.ntmps14
  go_wp2_with fail
  clear hmk1 hmk2
  have E0 : IntKind.i64.wrap (2 * (n : Int)) = 2 * (n : Int) := by rw [IntKind.wrap_i64]; omega
  go_loopg [7, 10, 2] (2 * n + 1) (fun g vo st mo wr => ∃ (k : Nat) (s : TS) (oa : Option Addr) (oc : Nat), g = 2 * n + 1 - k ∧ st = .int .i64 k ∧ vo = .slice oa s.taken.length oc ∧ mo = .int .i64 s.most ∧ DT w n A B C vo (tb n s.taken) (tb n s.passed) s.taken wr ∧ TInv l thr m0 s ∧ leftS n s + k ≤ 2 * n)
  case atStart => exact ⟨0, ⟨[], [], m0⟩, none, 0, rfl, rfl, rfl, rfl, HST.out, ⟨Inv.start l m0, fun i hi => by simp at hi, List.nodup_nil, ⟨HM0.out.1, Int.le_refl _⟩, rfl⟩, by rw [leftS_start]; omega⟩
  case round =>
    clear HST
    rename World => wo
    obtain ⟨k, s, oa, oc, hgk, rfl, rfl, rfl, hst, hti, hlk⟩ := hrel
    have HGK := Lib.hid hgk
    have HST := Lib.hid hst
    have HTI := Lib.hid hti
    have HLK := Lib.hid hlk
    have HTL := Lib.hid (show s.taken.length ≤ n ∧ s.passed.length ≤ n by have h1 := nodup_len hti.inv.nodup hti.inv.lt; have h2 := nodup_len hti.pnd hti.plt; have := HN.out; omega)
    have hk2 : (k : Int) ≤ 2 * (n : Int) := by omega
    obtain ⟨tl, htl⟩ : ∃ tl, tl = s.taken.length := ⟨_, rfl⟩
    obtain ⟨mo, hmo⟩ : ∃ mo, mo = s.most := ⟨_, rfl⟩
    rw [← htl] at HST HTL ⊢
    rw [← hmo]
    have HTLE := Lib.hid htl
    have HMOE := Lib.hid hmo
    clear hgk hst hti hlk htl hmo
    go_wp2_with fail
    go_loopg [11, 12, 13, 14] n (fun g va vf vs i wr => ∃ (j : Nat) (b : Bst), g = n - j ∧ j ≤ n ∧ i = .int .i64 j ∧ va = .int .i64 (atI b.at_) ∧ vf = .int .i64 b.fee ∧ vs = .int .i64 b.size ∧ b = bestL (scoreOf l s.taken) (skipOf s) j ∧ Below wo.heap.size wo wr)
    case atStart => exact ⟨0, ⟨none, 0, 0⟩, rfl, by omega, rfl, rfl, rfl, rfl, rfl, Below.refl _ _⟩
    case round =>
      rename World => wp
      obtain ⟨j, b, hgj, hj, rfl, rfl, rfl, rfl, hbb, hb⟩ := hrel
      have HGJ := Lib.hid hgj
      have HB := Lib.hid hb
      have HBB := Lib.hid hbb
      clear hgj hb hbb
      have HDP := Lib.hid (HST.out.below HB.out)
      by_cases hlt : j < n
      · have hjl : j < l.length := by rw [← HN.out]; exact hlt
        obtain ⟨t1, ht1⟩ : ∃ t, t = s.taken.contains j := ⟨_, rfl⟩
        obtain ⟨t2, ht2⟩ : ∃ t, t = s.passed.contains j := ⟨_, rfl⟩
        have c0 : wp.cell? ⟨A, j, none⟩ = some (.bool t1) := by
          obtain ⟨b, h1, h2⟩ := HDP.out.tk.get (i := j) (by rw [tb_len]; exact hlt)
          rw [tb_at hlt] at h1
          rw [h2, ← Option.some.inj h1, ht1]
        have c1 : wp.cell? ⟨B, j, none⟩ = some (.bool t2) := by
          obtain ⟨b, h1, h2⟩ := HDP.out.ps.get (i := j) (by rw [tb_len]; exact hlt)
          rw [tb_at hlt] at h1
          rw [h2, ← Option.some.inj h1, ht2]
        have HSK := Lib.hid (show skipOf s j = (t1 || t2) by unfold skipOf; rw [ht1, ht2])
        have HJL := Lib.hid hjl
        clear ht1 ht2 hjl
        have hskip : ∀ t : Bool, (t1 || t2) = true → b = bestL (scoreOf l s.taken) (skipOf s) (j + 1) := fun _ h => by
          rw [best_succ, ← HBB.out]; unfold bStep; rw [if_pos (HSK.out.trans h)]
        cases t1
        rotate_left
        · have HNX := Lib.hid (hskip true rfl)
          clear hskip
          go_wp2_with fail
          go_roundg (n - (j + 1))
          case measure => have := HGJ.out; omega
          case rel => exact ⟨j + 1, b, rfl, by omega, by go_num, rfl, rfl, rfl, HNX.out, HB.out⟩
        cases t2
        rotate_left
        · have HNX := Lib.hid (hskip true rfl)
          clear hskip
          go_wp2_with fail
          go_roundg (n - (j + 1))
          case measure => have := HGJ.out; omega
          case rel => exact ⟨j + 1, b, rfl, by omega, by go_num, rfl, rfl, rfl, HNX.out, HB.out⟩
        clear hskip
        have HBU := Lib.hid (bundle21_any _ _ l j (tb n s.taken) wp (HSL.out.below HDP.out.bel) HDP.out.tk.sl HJL.out (by have := HN.out; omega) (by rw [tb_len]; exact HN.out))
        go_wp2_with fail
        refine HBU.out.mono ?_
        rintro e w3 ⟨v, rfl, hv, hxc⟩
        have hins := insOf_bund (l := l) (i := j) (n := n) (ps := s.taken) HN.out
        have hil : ((List.range l.length).map fun k => reachB l j k && !((tb n s.taken).getD k false)).length = n := by rw [List.length_map, List.length_range]; exact HN.out.symm
        generalize ((List.range l.length).map fun k => reachB l j k && !((tb n s.taken).getD k false)) = inb at *
        obtain ⟨va, vc, hve, -, -⟩ := ownsRow_shape hv
        rw [hil] at hve
        subst hve
        have HB3 := Lib.hid (HB.out.trans (hxc.mono HB.out.size))
        have hsu := sum14_any _ _ l inb w3 (HSL.out.below (HDP.out.bel.trans (hxc.mono HDP.out.bel.size))) hv.sl HZ.out (by rw [hil]; exact HN.out)
        rw [hins, show feeL l (bundL l j fun k => s.taken.contains k) = scoreOf l s.taken j from rfl] at hsu
        have HST := Lib.hid (best_succ (scoreOf l s.taken) (skipOf s) j)
        have HSN := Lib.hid (show bStep (scoreOf l s.taken) (skipOf s) b j = if b.at_ = none ∨ 0 < cmpR (scoreOf l s.taken j).1 (scoreOf l s.taken j).2 b.fee b.size then ⟨some j, (scoreOf l s.taken j).1, (scoreOf l s.taken j).2⟩ else b by unfold bStep; rw [HSK.out, if_neg (by decide)])
        obtain ⟨p, hp⟩ : ∃ p, p = scoreOf l s.taken j := ⟨_, rfl⟩
        rw [← hp] at hsu
        obtain ⟨pf, ps⟩ := p
        have HPP := Lib.hid hp
        have HSU := Lib.hid hsu
        clear hp hsu hil hins hv hxc HBU c0 c1
        go_wp2_with fail
        refine HSU.out.mono ?_
        rintro e w4 ⟨rfl, hxc⟩
        have HB4 := Lib.hid (HB3.out.trans (hxc.mono HB3.out.size))
        clear hxc HSU
        dsimp only
        obtain ⟨ba, bf, bs⟩ := b
        have HCM := Lib.hid (rcompare_any pf ps bf bs w4)
        obtain ⟨cm, hcm⟩ : ∃ cm, cm = cmpR pf ps bf bs := ⟨_, rfl⟩
        have HCE := Lib.hid hcm
        go_wp2_with fail
        refine HCM.out.mono ?_
        rintro e w5 ⟨rfl, rfl⟩
        rw [← hcm]
        clear hcm HCM
        cases ba with
        | none =>
          have HNX := Lib.hid (show (⟨some j, pf, ps⟩ : Bst) = bestL (scoreOf l s.taken) (skipOf s) (j + 1) by rw [HST.out, ← HBB.out, HSN.out, if_pos (.inl rfl), ← HPP.out])
          have hat : atI none = -1 := rfl
          simp only [hat]
          go_wp2_with fail
          go_roundg (n - (j + 1))
          case measure => have := HGJ.out; omega
          case rel => exact ⟨j + 1, _, rfl, by omega, by go_num, rfl, rfl, rfl, HNX.out, HB4.out⟩
        | some q =>
          have hat : atI (some q) = (q : Int) := rfl
          have hq : ¬ ((q : Int) < 0) := by omega
          simp only [hat]
          by_cases h0 : 0 < cm
          · have HNX := Lib.hid (show (⟨some j, pf, ps⟩ : Bst) = bestL (scoreOf l s.taken) (skipOf s) (j + 1) by rw [HST.out, ← HBB.out, HSN.out, if_pos (.inr (by rw [← HPP.out, ← HCE.out]; exact h0)), ← HPP.out])
            go_wp2_with fail
            go_roundg (n - (j + 1))
            case measure => have := HGJ.out; omega
            case rel => exact ⟨j + 1, _, rfl, by omega, by go_num, rfl, rfl, rfl, HNX.out, HB4.out⟩
          · have HNX := Lib.hid (show (⟨some q, bf, bs⟩ : Bst) = bestL (scoreOf l s.taken) (skipOf s) (j + 1) by rw [HST.out, ← HBB.out, HSN.out, if_neg (by rintro (h | h); cases h; rw [← HPP.out, ← HCE.out] at h; exact h0 h)])
            go_wp2_with fail
            go_roundg (n - (j + 1))
            case measure => have := HGJ.out; omega
            case rel => exact ⟨j + 1, _, rfl, by omega, by go_num, rfl, rfl, rfl, HNX.out, HB4.out⟩
      · obtain rfl : n = j := by omega
        have HBO := Lib.hid (show b = bestOf l s by rw [HBB.out, HN.out]; rfl)
        clear HST HB HBB
        obtain ⟨ba, bf, bs⟩ := b
        cases ba with
        | none =>
          have hat : atI none = -1 := rfl
          simp only [hat]
          have HEND := Lib.hid (show tmplL l thr m0 = s.taken by
            unfold tmplL
            rw [← HTI.out.run, tEnd_none (by unfold tStep; rw [← HBO.out])])
          go_wp2_with fail
          go_ret
          exact ⟨_, rfl, by rw [HEND.out, HTLE.out]; exact ownsRow_base (HTLE.out ▸ HDP.out.od) (by have := HDP.out.ab; omega), HDP.out.bel⟩
        | some i =>
          have hat : atI (some i) = (i : Int) := rfl
          have hq : ¬ ((i : Int) < 0) := by omega
          simp only [hat]
          have HI := Lib.hid (best_some (sc := scoreOf l s.taken) (skip := skipOf s) (n := l.length) (congrArg Bst.at_ HBO.out).symm)
          have HFE := Lib.hid (show bf = (scoreOf l s.taken i).1 from (congrArg Bst.fee HBO.out).trans HI.out.2.2.1)
          have HSE := Lib.hid (show bs = (scoreOf l s.taken i).2 from (congrArg Bst.size HBO.out).trans HI.out.2.2.2)
          have HTS := Lib.hid (show tStep l thr s = if lowB bf bs thr = true then none else if badB s bs (someOf l s i) = true then some ⟨s.taken, s.passed ++ [i], s.most⟩ else some ⟨s.taken ++ someOf l s i, s.passed, s.most - bs⟩ by
            unfold tStep
            rw [← HBO.out])
          have HBL := Lib.hid (below21_any bf bs thr wp)
          obtain ⟨lo, hlo⟩ : ∃ lo, lo = lowB bf bs thr := ⟨_, rfl⟩
          have hts := HTS.out
          rw [← hlo] at hts
          have HTS := Lib.hid hts
          go_wp2_with fail
          refine HBL.out.mono ?_
          rintro e w5 ⟨rfl, rfl⟩
          rw [← hlo]
          clear hlo hts HBL
          cases lo
          rotate_left
          · have HEND := Lib.hid (show tmplL l thr m0 = s.taken by
              unfold tmplL
              rw [← HTI.out.run, tEnd_none (by rw [HTS.out, if_pos rfl])])
            go_wp2_with fail
            go_ret
            exact ⟨_, rfl, by rw [HEND.out, HTLE.out]; exact ownsRow_base (HTLE.out ▸ HDP.out.od) (by have := HDP.out.ab; omega), HDP.out.bel⟩
          have hts := HTS.out
          rw [if_neg (by decide)] at hts
          have HTS := Lib.hid hts
          clear hts
          have HBU := Lib.hid (bundle21_any _ _ l i (tb n s.taken) wp (HSL.out.below HDP.out.bel) HDP.out.tk.sl HI.out.1 (by have := HN.out; omega) (by rw [tb_len]; exact HN.out))
          go_wp2_with fail
          refine HBU.out.mono ?_
          rintro e w3 ⟨v, rfl, hv, hxc⟩
          have hins := insOf_bund (l := l) (i := i) (n := n) (ps := s.taken) HN.out
          have hil : ((List.range l.length).map fun k => reachB l i k && !((tb n s.taken).getD k false)).length = n := by rw [List.length_map, List.length_range]; exact HN.out.symm
          generalize ((List.range l.length).map fun k => reachB l i k && !((tb n s.taken).getD k false)) = inb at *
          obtain ⟨va, vc, hve, -, -⟩ := ownsRow_shape hv
          rw [hil] at hve
          subst hve
          have HD3 := Lib.hid (HDP.out.below hxc)
          have HV := Lib.hid hv
          have HINS := Lib.hid (show insOf inb n = someOf l s i by have h := hins; rw [← HN.out] at h; exact h)
          have HOV := Lib.hid (show ∀ b, (Value.slice oa tl oc).ownBlock = some b → (Value.slice va n vc).ownBlock ≠ some b from fun b h1 h2 => by have := (HDP.out.od.lt b h1).2; have := (hv.lt b h2).1; omega)
          have HAP := Lib.hid (show A < wp.heap.size by have := HDP.out.ab; omega)
          clear hins hil hv hxc HBU HDP
          obtain ⟨b0, hb0⟩ : ∃ b0, b0 = decide (mo < bs) := ⟨_, rfl⟩
          have HB0 := Lib.hid hb0
          go_upto_region 28 with fail
          rw [← hb0]
          clear hb0
          go_wp2_with fail
          go_loopg [21, 22] n (fun g vb j wr => ∃ r : Nat, g = n - r ∧ r ≤ n ∧ j = .int .i64 r ∧ vb = .bool (b0 || (insOf inb r).any fun x => s.passed.contains x) ∧ w3 = wr)
          case atStart => exact ⟨0, rfl, by omega, rfl, by simp [insOf], rfl⟩
          case round =>
            obtain ⟨r, hgr, hr, rfl, rfl, rfl⟩ := hrel
            have HGR := Lib.hid hgr
            clear hgr
            obtain ⟨bk, hbk⟩ : ∃ bk, bk = (b0 || (insOf inb r).any fun x => s.passed.contains x) := ⟨_, rfl⟩
            rw [← hbk]
            have HBK := Lib.hid hbk
            clear hbk
            by_cases hrn : r < n
            · obtain ⟨vb, vo, y, hve, hy, d0⟩ := HV.out.sl.bool hrn
              subst hve
              obtain ⟨pk, hpk⟩ : ∃ t, t = s.passed.contains r := ⟨_, rfl⟩
              have c1 : w3.cell? ⟨B, r, none⟩ = some (.bool pk) := by
                obtain ⟨b, h1, h2⟩ := HD3.out.ps.get (i := r) (by rw [tb_len]; exact hrn)
                rw [tb_at hrn] at h1
                rw [h2, ← Option.some.inj h1, hpk]
              have HNX := Lib.hid (show (bk || (y && pk)) = (b0 || (insOf inb (r + 1)).any fun x => s.passed.contains x) by
                rw [insOf_succ, List.any_append, ← Bool.or_assoc, ← HBK.out, List.getD_eq_getElem?_getD, hy]
                cases y
                · simp
                · simp [hpk])
              clear hy hpk
              cases bk
              · cases y
                · go_wp2_with fail
                  go_roundg (n - (r + 1))
                  case measure => have := HGR.out; omega
                  case rel => exact ⟨r + 1, rfl, by omega, by go_num, by rw [← HNX.out] <;> rfl, rfl⟩
                · cases pk
                  · go_wp2_with fail
                    go_roundg (n - (r + 1))
                    case measure => have := HGR.out; omega
                    case rel => exact ⟨r + 1, rfl, by omega, by go_num, by rw [← HNX.out] <;> rfl, rfl⟩
                  · go_wp2_with fail
                    go_roundg (n - (r + 1))
                    case measure => have := HGR.out; omega
                    case rel => exact ⟨r + 1, rfl, by omega, by go_num, by rw [← HNX.out] <;> rfl, rfl⟩
              · go_wp2_with fail
                go_roundg (n - (r + 1))
                case measure => have := HGR.out; omega
                case rel => exact ⟨r + 1, rfl, by omega, by go_num, by rw [← HNX.out] <;> rfl, rfl⟩
            · obtain rfl : n = r := by omega
              have HBD := Lib.hid (show bk = badB s bs (someOf l s i) by rw [HBK.out, HINS.out, HB0.out, HMOE.out]; rfl)
              have hts := HTS.out
              rw [← HBD.out] at hts
              have hin : i < n := by rw [HN.out]; exact HI.out.1
              cases bk
              · rw [if_neg (by decide)] at hts
                have HTT := Lib.hid (HTI.out.step HZ.out hts)
                have HLF := Lib.hid (tStep_left hts)
                have hsi : 0 ≤ bs ∧ bs ≤ 24000 := by
                  have h1 := feeL_bd HZ.out (ps := someOf l s i) fun k hk => (mem_bundL.1 hk).1
                  have h2 := bund_len l i (fun k => s.taken.contains k)
                  have h3 : bs = (feeL l (someOf l s i)).2 := HSE.out
                  have h4 : (someOf l s i).length ≤ l.length := h2
                  have := HN.out
                  omega
                have hmsi : bs ≤ mo := by
                  have h := HBD.out.symm
                  unfold badB at h
                  rw [Bool.or_eq_false_iff, ← HMOE.out] at h
                  have := of_decide_eq_false h.1
                  omega
                have E : IntKind.i64.wrap (mo - bs) = mo - bs := by rw [IntKind.wrap_i64]; have := HM0.out; have := HTI.out.most; rw [← HMOE.out] at this; omega
                have HINS2 := Lib.hid HINS.out
                have HTN := Lib.hid (show (s.taken ++ insOf inb n).length ≤ 24 by rw [HINS.out, List.length_append]; have h2 := bund_len l i (fun k => s.taken.contains k); have h4 : (someOf l s i).length ≤ l.length := h2; have := HN.out; have := HTL.out; have := HTLE.out; omega)
                clear hts hsi hmsi
                go_wp2_with fail
                go_loopg [7, 23] n (fun g vo j wr => ∃ (r : Nat) (oa2 : Option Addr) (oc2 : Nat), g = n - r ∧ r ≤ n ∧ j = .int .i64 r ∧ vo = .slice oa2 (s.taken ++ insOf inb r).length oc2 ∧ DT w n A B C vo (tb n (s.taken ++ insOf inb r)) (tb n s.passed) (s.taken ++ insOf inb r) wr ∧ BlRow wp.heap.size wr (.slice va n vc) inb ∧ (∀ b, vo.ownBlock = some b → (Value.slice va n vc).ownBlock ≠ some b))
                case atStart => exact ⟨0, oa, oc, rfl, by omega, rfl, by rw [HTLE.out]; simp [insOf], by simpa [insOf] using HD3.out, HV.out, HOV.out⟩
                case round =>
                  clear HD3 HV HOV HINS
                  rename World => wq
                  obtain ⟨r, oa2, oc2, hgr, hr, rfl, rfl, hd, hv, hov⟩ := hrel
                  have HGR := Lib.hid hgr
                  have HD := Lib.hid hd
                  have HV := Lib.hid hv
                  have HOV := Lib.hid hov
                  have HNX := Lib.hid (insOf_succ inb r)
                  obtain ⟨ql, hql⟩ : ∃ ql, ql = (s.taken ++ insOf inb r).length := ⟨_, rfl⟩
                  rw [← hql] at HD HOV ⊢
                  have HQL := Lib.hid hql
                  clear hgr hd hv hov hql
                  by_cases hrn : r < n
                  · obtain ⟨vb, vo, y, hve, hy, d0⟩ := HV.out.sl.bool hrn
                    have hgd : inb.getD r false = y := by rw [List.getD_eq_getElem?_getD, hy]; rfl
                    have HGD := Lib.hid hgd
                    subst hve
                    clear hy hgd
                    cases y
                    · have HE := Lib.hid (show insOf inb (r + 1) = insOf inb r by rw [HNX.out, HGD.out, if_neg (by decide), List.append_nil])
                      go_wp2_with fail
                      go_roundg (n - (r + 1))
                      case measure => have := HGR.out; omega
                      case rel => exact ⟨r + 1, oa2, oc2, rfl, by omega, by go_num, by rw [HE.out, HQL.out], by rw [HE.out]; exact HD.out, HV.out, HOV.out⟩
                    · have HE := Lib.hid (show s.taken ++ insOf inb (r + 1) = s.taken ++ insOf inb r ++ [r] by rw [HNX.out, HGD.out, if_pos rfl, List.append_assoc])
                      have hrl : r < (tb n (s.taken ++ insOf inb r)).length := by rw [tb_len]; exact hrn
                      obtain ⟨t0, -, c0⟩ := HD.out.tk.get hrl
                      have f0 := HD.out.tk.free r
                      have hput := HD.out.putT hrl true
                      rw [← tb_snoc hrn] at hput
                      have HV2 := Lib.hid (show BlRow wp.heap.size (wq.setCell ⟨A, r, none⟩ (.bool true)) (.slice (some ⟨vb, vo, none⟩) n vc) inb from ownsRow_other HV.out _ _ (fun e => by have := (HV.out.lt _ e).1; have := HAP.out; dsimp only at *; omega))
                      have HPUT := Lib.hid hput
                      clear hput hrl
                      go_upto_region 39 with fail
                      clear d0 c0 f0
                      generalize wq.setCell ⟨A, r, none⟩ (.bool true) = wz at *
                      obtain ⟨a8, c8, wd, hrun, hd8, hk8, ho8⟩ := HPUT.out.app r (by have := insOf_len inb r; have := HTL.out; have := HTLE.out; rw [List.length_append]; omega)
                      rw [← HQL.out] at hrun hd8 ho8
                      have HR := Lib.hid hrun
                      have HD8 := Lib.hid hd8
                      have HV8 := Lib.hid (show BlRow wp.heap.size wd (.slice (some ⟨vb, vo, none⟩) n vc) inb from ownsRow_of_block HV2.out fun b hb => hk8 b (HV2.out.lt b hb).2 (fun e => HOV.out b e hb))
                      have HO8 := Lib.hid (show ∀ b, (Value.slice a8 (ql + 1) c8).ownBlock = some b → (Value.slice (some ⟨vb, vo, none⟩) n vc).ownBlock ≠ some b from fun b h1 h2 => by
                        rcases ho8 b h1 with h | h
                        · exact HOV.out b h h2
                        · have := (HV2.out.lt b h2).2; omega)
                      clear hrun hd8 hk8 ho8
                      go_wp2_with (at_builtin; refine wpList_append_run rfl (.tmp 129) (.tmp 131) 23 23 rfl rfl rfl HR.out ?_)
                      go_roundg (n - (r + 1))
                      case measure => have := HGR.out; omega
                      case rel => exact ⟨r + 1, a8, c8, rfl, by omega, by go_num, by rw [HE.out, List.length_append, ← HQL.out]; rfl, by rw [HE.out]; exact HD8.out, HV8.out, HO8.out⟩
                  · obtain rfl : n = r := by omega
                    go_wp2_with fail
                    go_roundg (2 * n + 1 - (k + 1))
                    case measure => have := HGK.out; have := HLK.out; omega
                    case rel => exact ⟨k + 1, ⟨s.taken ++ someOf l s i, s.passed, s.most - bs⟩, oa2, oc2, rfl, by go_num, by rw [HQL.out, HINS2.out], by rw [HMOE.out], by have h := HD.out; rw [HINS2.out] at h; exact h, HTT.out, by have := HLF.out; have := HLK.out; simp only [← HN.out] at *; omega⟩
              · rw [if_pos rfl] at hts
                have HTT := Lib.hid (HTI.out.step HZ.out hts)
                have HLF := Lib.hid (tStep_left hts)
                obtain ⟨pk, -, c1⟩ := HD3.out.ps.get (i := i) (by rw [tb_len]; exact hin)
                have f1 := HD3.out.ps.free i
                have hput := HD3.out.putP (i := i) (by rw [tb_len]; exact hin) true
                rw [← tb_snoc hin] at hput
                have HPUT := Lib.hid hput
                clear hts hput
                go_wp2_with fail
                go_roundg (2 * n + 1 - (k + 1))
                case measure => have := HGK.out; have := HLK.out; omega
                case rel => exact ⟨k + 1, ⟨s.taken, s.passed ++ [i], s.most⟩, oa, oc, rfl, by go_num, by rw [HTLE.out], by rw [HMOE.out], HPUT.out, HTT.out, by have := HLF.out; have := HLK.out; simp only [← HN.out] at *; omega⟩
end Go.Proofs.Ytfkcldaogfengaa
end

section
/-
  Marks, places and counts of the miner's laws, as plain data. Conditions: none beyond each theorem's own.
-/
namespace Go.Proofs.Ytfkcldaogfengaa
open Go.RowKit Go.BigFrame
set_option linter.unusedVariables false
set_option linter.unusedSimpArgs false

/-! ### MinerScores -/
def zb (n : Nat) (zs : List Int) : List Bool := (List.range n).map fun k => zs.contains (natI k)
theorem zb_len (n : Nat) (zs : List Int) : (zb n zs).length = n := by unfold zb; rw [List.length_map, List.length_range]
theorem zb_nil (n : Nat) : zb n [] = List.replicate n false := by
  unfold zb
  refine List.ext_getElem? fun k => ?_
  rw [List.getElem?_map, List.getElem?_replicate]
  by_cases hk : k < n
  · rw [List.getElem?_range hk, if_pos hk]; rfl
  · rw [List.getElem?_eq_none (by simpa using hk), if_neg hk]; rfl
theorem zb_at {n k : Nat} {zs : List Int} (hk : k < n) : (zb n zs)[k]? = some (zs.contains (natI k)) := by
  unfold zb
  rw [List.getElem?_map, List.getElem?_range hk]
  rfl
theorem zb_put {n i : Nat} {zs : List Int} (hi : i < n) : zb n (zs ++ [natI i]) = (zb n zs).set i true := by
  refine List.ext_getElem? fun k => ?_
  by_cases hk : k < n
  · rw [zb_at hk]
    by_cases e : i = k
    · subst e
      rw [List.getElem?_set_self (by rw [zb_len]; exact hi)]
      simp
    · rw [List.getElem?_set_ne e, zb_at hk]
      refine congrArg some ?_
      rw [Bool.eq_iff_iff]
      simp [List.contains_iff_mem]
      exact fun h => absurd (natI_inj h).symm e
  · rw [List.getElem?_eq_none (by rw [zb_len]; omega), List.getElem?_eq_none (by rw [List.length_set, zb_len]; omega)]
theorem zb_skip {n : Nat} {x : Int} {zs : List Int} (h : ¬ (0 ≤ x ∧ x < (n : Int))) : zb n (zs ++ [x]) = zb n zs := by
  refine List.ext_getElem? fun k => ?_
  by_cases hk : k < n
  · rw [zb_at hk, zb_at hk]
    refine congrArg some ?_
    rw [Bool.eq_iff_iff]
    simp [List.contains_iff_mem]
    intro e
    exact absurd ⟨by rw [← e]; unfold natI; omega, by rw [← e]; unfold natI; omega⟩ h
  · rw [List.getElem?_eq_none (by rw [zb_len]; omega), List.getElem?_eq_none (by rw [zb_len]; omega)]
theorem zb_score {l : List PE} {i n : Nat} {zs : List Int} (hn : n = l.length) : feeL l (insOf ((List.range l.length).map fun k => reachB l i k && !((zb n zs).getD k false)) l.length) = scoreZ l zs i := by
  subst hn
  unfold scoreZ
  congr 1
  unfold insOf bundL
  refine List.filter_congr fun k hk => ?_
  have hk' := List.mem_range.1 hk
  rw [List.getD_eq_getElem?_getD, List.getElem?_map, List.getElem?_range hk']
  simp only [Option.map_some, Option.getD_some]
  rw [List.getD_eq_getElem?_getD, zb_at hk']
  rfl

/-! ### places found by their transactions -/
theorem txI_get {l : List PE} {i : Nat} (hi : i < l.length) : ∃ x, l[i]? = some x ∧ txI l i = x.tx := ⟨l[i], List.getElem?_eq_getElem hi, txI_at (List.getElem?_eq_getElem hi)⟩
/-- The last of the first n places whose transaction is that of place p. -/
noncomputable def lastOf (l : List PE) (t : PTx) : Nat → Int
  | 0 => -1
  | n + 1 => if sameTx (txI l n) t = true then (n : Int) else lastOf l t n
theorem Listed.txI_inj {l : List PE} (h : Listed l) {i j : Nat} (hi : i < l.length) (hj : j < l.length) (e : txI l i = txI l j) : i = j := by
  obtain ⟨x, hx, ex⟩ := txI_get hi
  obtain ⟨y, hy, ey⟩ := txI_get hj
  exact h.unlike hx hy (by rw [← ex, ← ey, e])
theorem Listed.last {l : List PE} (h : Listed l) {p : Nat} (hp : p < l.length) : ∀ {n : Nat}, n ≤ l.length → lastOf l (txI l p) n = if p < n then (p : Int) else -1
  | 0, _ => rfl
  | n + 1, hn => by
    rw [lastOf, h.last hp (by omega)]
    by_cases e : txI l n = txI l p
    · have := h.txI_inj (by omega) hp e
      subst this
      rw [if_pos (same_yes rfl), if_pos (by omega)]
    · have hne : n ≠ p := fun e2 => e (by rw [e2])
      rw [same_no e, if_neg (by decide)]
      by_cases hlt : p < n
      · rw [if_pos hlt, if_pos (by omega)]
      · rw [if_neg hlt, if_neg (by omega)]

/-! ### MinerRises: those that are taken, in the list's order -/
def risen (ps : List Nat) (n : Nat) : List Nat := (List.range n).filter fun i => ps.contains i
theorem risen_succ (ps : List Nat) (n : Nat) : risen ps (n + 1) = risen ps n ++ if ps.contains n = true then [n] else [] := by
  unfold risen
  rw [List.range_succ, List.filter_append]
  congr 1
  simp only [List.filter_cons, List.filter_nil]
theorem risen_len {ps : List Nat} {n : Nat} (hnd : ps.Nodup) (hl : ∀ i ∈ ps, i < n) : (risen ps n).length = ps.length := by
  refine List.Perm.length_eq ((List.perm_ext_iff_of_nodup (List.nodup_range.sublist List.filter_sublist) hnd).2 fun i => ?_)
  rw [List.mem_filter, List.mem_range]
  constructor
  · rintro ⟨-, h⟩; simpa using h
  · intro h; exact ⟨hl i h, by simpa using h⟩
theorem risen_le (ps : List Nat) (n : Nat) : (risen ps n).length ≤ n := by
  have := List.length_filter_le (fun i => ps.contains i) (List.range n)
  rwa [List.length_range] at this
theorem risen_mem {ps : List Nat} {n i : Nat} : i ∈ risen ps n ↔ i < n ∧ i ∈ ps := by
  unfold risen
  rw [List.mem_filter, List.mem_range]
  simp
theorem risen_score {l : List PE} {ps : List Nat} (hl : ∀ i ∈ ps, i < l.length) (i : Nat) : scoreZ l ((risen ps l.length).map natI) i = scoreOf l ps i := by
  rw [scoreZ_nat]
  unfold scoreOf
  congr 2
  funext k
  rw [Bool.eq_iff_iff, List.contains_iff_mem, List.contains_iff_mem, risen_mem]
  exact ⟨fun h => h.2, fun h => ⟨hl k h, h⟩⟩
end Go.Proofs.Ytfkcldaogfengaa
end

section
/-
  MinerScores: the walk. Conditions: none beyond the arguments' own.
-/
namespace Go.Proofs.Ytfkcldaogfengaa
open Go.RowKit Go.BigFrame Go.ChangeShapes Go.WideShapes
set_option linter.unusedVariables false
set_option linter.unusedSimpArgs false

set_option maxRecDepth 100000 in
theorem open_i64s {H : Type} {enc : TypeId × Value → H} {w : World} {v : Value} {d : DataW H} {ps : List MemPlace} (hv : Value.okWide Try.prog w .any 0 23 v) (h : DataW.Trod enc Try.prog w 0 (fun _ => true) true 23 v d ps) :
    ∃ l : List Int, IntsAt w v l := by
  obtain ⟨a, n, c, rfl⟩ := Go.WideShapes.okWide_slice Try.underlying23 hv
  obtain ⟨fuel, hf⟩ := h
  obtain ⟨l, u, e, hu⟩ := rp_of_slice (R := rpInt .i64) Try.underlying23 (by kernel_rfl) (by decide) (fun _ _ _ => rp_of_int Try.underlying3) hf
  have e' : Value.slice a n c = u := by simpa [Value.cells] using e
  exact ⟨l, e' ▸ hu⟩
theorem smalls_ok {w : World} {v : Value} {zs : List PSm} (h : SlAt rpSm w v zs) : ∀ z ∈ zs, z.Ok0 := by
  obtain ⟨a, c, rfl, -, -⟩ := h.shape
  intro z hz
  obtain ⟨i, hi, rfl⟩ := List.getElem_of_mem hz
  obtain ⟨_, _, x, _, _, _, _, hx, hok, -⟩ := h.sm hi
  rw [List.getElem?_eq_getElem hi] at hx
  rw [Option.some.inj hx]
  exact hok
theorem ten_call {w : World} {sl : Value} {zs : List PSm} (h : SlAt rpSm w sl zs) : Calls Try.prog 8 #[sl, .int .i64 10] w (ListP (listL (zs.take 10)) w) := listed21_any sl zs 10 w h (by decide)
theorem ten_len (zs : List PSm) : (listL (zs.take 10)).length ≤ 10 := by
  have := listL_len (zs.take 10)
  rw [List.length_take] at this
  omega
theorem ten_listed {w : World} {v : Value} {zs : List PSm} (h : SlAt rpSm w v zs) : Listed (listL (zs.take 10)) := listL_listed fun z hz => smalls_ok h z (List.mem_of_mem_take hz)
theorem snoc_take {α : Type} {l : List α} {k : Nat} {x : α} (h : l[k]? = some x) : l.take (k + 1) = l.take k ++ [x] := by
  rw [List.take_add_one, h]
  rfl
set_option maxRecDepth 100000 in
set_option maxHeartbeats 4000000 in
theorem minerScores_walk (v0 : Value) (zs : List PSm) (at_ : Int) (v2 : Value) (bs : List Int) (w : World) (h0 : SlAt rpSm w v0 zs) (h1 : (Lit.int .i64 at_).wf = true) (h2 : IntsAt w v2 bs) :
    Calls Try.prog 3 #[v0, .int .i64 at_, v2] w (BIs true w) := by
  have HC := Lib.hid (ten_call h0)
  have HLI := Lib.hid (ten_listed h0)
  have HLE := Lib.hid (ten_len zs)
  generalize listL (zs.take 10) = l at *
  obtain ⟨a, c, rfl, -, -⟩ := h0.shape
  obtain ⟨ba, bc, rfl, hq1, hq2⟩ := SlAt.shape h2
  rw [maxLen_eq] at hq2
  obtain ⟨z0, hz0⟩ : ∃ z0, z0 = zs.length := ⟨_, rfl⟩
  obtain ⟨m, hm⟩ : ∃ m, m = bs.length := ⟨_, rfl⟩
  rw [← hz0] at HC ⊢
  rw [← hm] at hq1 h2 ⊢
  obtain ⟨mb, hmb⟩ : ∃ mb, mb = min m 12 := ⟨_, rfl⟩
  have hmin : min (m : Int) 12 = (mb : Int) := by omega
  have hmbm : mb ≤ m := by omega
  have hmb12 : mb ≤ 12 := by omega
  obtain ⟨cs, hcs⟩ : ∃ cs, cs = bs.take mb := ⟨_, rfl⟩
  have HCS := Lib.hid (hcs ▸ SlAt.cut h2 hmbm : IntsAt w (.slice ba mb bc) cs)
  have HCL := Lib.hid (show cs.length = mb by rw [hcs, List.length_take]; omega)
  have HAT := Lib.hid (wf_i64z h1)
  clear h0 h1 h2 hz0 hm hmb hcs
  go_enter Try.func3, Try.ntmps3
  go_wp2_with fail
  refine HC.out.mono ?_
  rintro e w1 ⟨v, rfl, hsl, hb⟩
  have HB1 := Lib.hid hb
  have HSL := Lib.hid hsl
  obtain ⟨la, lc, rfl, hl1, hl2⟩ := hsl.shape
  rw [maxLen_eq] at hl2
  obtain ⟨n, hn⟩ : ∃ n, n = l.length := ⟨_, rfl⟩
  have HN := Lib.hid hn
  have hn10 : n ≤ 10 := by have := HLE.out; omega
  rw [← hn] at hl1 HSL ⊢
  have HSZ := Lib.hid (HLI.out.sized (by have := HLE.out; omega))
  clear hn hsl hb HC
  obtain ⟨w2, hmk, hrow, hb2⟩ := mk_bools w1 n (by omega)
  have HST := Lib.hid (show BS w1 n (zb n (cs.take 0)) w2 by rw [List.take_zero, zb_nil]; exact ⟨hb2, hrow⟩)
  clear hrow hb2
  go_wp2_with fail
  clear hmk hmin
  obtain ⟨A, hA⟩ : ∃ A, A = w1.heap.size := ⟨_, rfl⟩
  rw [← hA]
  have HA := Lib.hid hA
  clear hA
  go_loopg [30] mb (fun g i wr => ∃ k : Nat, g = mb - k ∧ k ≤ mb ∧ i = .int .i64 k ∧ BS w1 n (zb n (cs.take k)) wr)
  case atStart => exact ⟨0, by omega, by omega, rfl, HST.out⟩
  case round =>
    clear HST
    rename World => wo
    obtain ⟨k, hgk, hk, rfl, hst⟩ := hrel
    have HGK := Lib.hid hgk
    have HST := Lib.hid hst
    have HB := Lib.hid (HB1.out.trans (hst.bel.mono HB1.out.size))
    clear hgk hst
    by_cases hlt : k < mb
    · obtain ⟨xb, xo, x, rfl, hx, d0⟩ := (HCS.out.below HB.out).cell hlt
      have HX := Lib.hid (snoc_take hx)
      clear hx
      by_cases hx0 : 0 ≤ x
      · obtain ⟨i, rfl⟩ : ∃ i : Nat, x = i := ⟨x.toNat, by omega⟩
        by_cases hxn : i < n
        · have hxn' : (i : Int) < (n : Int) := by omega
          obtain ⟨ob, -, c0⟩ := HST.out.row.get (i := i) (by rw [zb_len]; exact hxn)
          have f0 := HST.out.row.free i
          have HS2 := Lib.hid (HST.out.put (i := i) (by rw [zb_len]; exact hxn) true)
          rw [← HA.out] at c0 f0 HS2
          go_wp2_with fail
          go_roundg (mb - (k + 1))
          case measure => have := HGK.out; omega
          case rel => exact ⟨k + 1, rfl, by omega, by go_num, by rw [HX.out, show (i : Int) = natI i from rfl, zb_put hxn]; exact HS2.out⟩
        · have hxn' : ¬ (i : Int) < (n : Int) := by omega
          go_wp2_with fail
          go_roundg (mb - (k + 1))
          case measure => have := HGK.out; omega
          case rel => exact ⟨k + 1, rfl, by omega, by go_num, by rw [HX.out, zb_skip (by omega)]; exact HST.out⟩
      · go_wp2_with fail
        go_roundg (mb - (k + 1))
        case measure => have := HGK.out; omega
        case rel => exact ⟨k + 1, rfl, by omega, by go_num, by rw [HX.out, zb_skip (by omega)]; exact HST.out⟩
    · obtain rfl : mb = k := by omega
      have hst := HST.out
      rw [List.take_of_length_le (by rw [HCL.out]; omega)] at hst
      have HST := Lib.hid hst
      clear hst
      go_wp2_with fail
      go_loopg [48] n (fun g i wr => ∃ k : Nat, g = n - k ∧ k ≤ n ∧ i = .int .i64 k ∧ BS w1 n (zb n cs) wr)
      case atStart => exact ⟨0, by omega, by omega, rfl, HST.out⟩
      case round =>
        clear HST HB
        rename World => wo
        obtain ⟨k, hgk, hk, rfl, hst⟩ := hrel
        have HGK := Lib.hid hgk
        have HST := Lib.hid hst
        have HB := Lib.hid (HB1.out.trans (hst.bel.mono HB1.out.size))
        have HSLo := Lib.hid (HSL.out.below hst.bel)
        have HCSo := Lib.hid (HCS.out.below HB.out)
        clear hgk hst
        by_cases hlt : k < n
        · obtain ⟨p, hp⟩ : ∃ p, p = scoreZ l cs k := ⟨_, rfl⟩
          have HC1 := Lib.hid (hp ▸ score_any _ _ l k cs wo HSLo.out HCSo.out HSZ.out (by have := HN.out; omega))
          have HP := Lib.hid hp
          clear hp
          go_wp2_with fail
          refine HC1.out.mono ?_
          rintro e w4 ⟨rfl, hb4⟩
          have HST4 := Lib.hid (HST.out.below hb4)
          clear hb4 HC1 HST HSLo HCSo
          go_wp2_with fail
          have hsb := HST4.out.row.sl
          rw [← HA.out] at hsb
          refine (bundle21_any _ _ l k (zb n cs) w4 (HSL.out.below HST4.out.bel) hsb (by have := HN.out; omega) (by have := HN.out; omega) (by rw [zb_len]; exact HN.out)).mono ?_
          rintro e w5 ⟨v, rfl, hrow, hb5⟩
          have HST5 := Lib.hid (HST4.out.below hb5)
          have hbv := hrow.sl
          obtain ⟨va, vc, rfl, -, -⟩ := hbv.shape
          have HBV := Lib.hid hbv
          have hS := sum14_any (.slice la n lc) _ l _ w5 (HSL.out.below HST5.out.bel) hbv HSZ.out (by rw [List.length_map, List.length_range])
          rw [zb_score HN.out, ← HP.out] at hS
          have HS := Lib.hid hS
          generalize (List.map (fun k_1 => reachB l k k_1 && !(zb n cs).getD k_1 false) (List.range l.length)).length = vn at *
          clear hsb hrow hbv hb5 HST4 hS
          go_wp2_with fail
          refine HS.out.mono ?_
          rintro e w6 ⟨rfl, hb6⟩
          have HST6 := Lib.hid (HST5.out.below hb6)
          clear hb6 HS HBV HST5
          go_wp2_with fail
          go_roundg (n - (k + 1))
          case measure => have := HGK.out; omega
          case rel => exact ⟨k + 1, rfl, by omega, by go_num, HST6.out⟩
        · obtain rfl : n = k := by omega
          clear hlt
          obtain ⟨p, hp⟩ : ∃ p : Int × Int, (Calls Try.prog 9 #[.slice la n lc, .int .i64 at_, .slice ba mb bc] wo (NN p wo)) ∧ (¬ (0 ≤ at_ ∧ at_ < (n : Int)) → p = (0, 0)) := by
            by_cases hin : 0 ≤ at_ ∧ at_ < (n : Int)
            · obtain ⟨i, rfl⟩ : ∃ i : Nat, at_ = i := ⟨at_.toNat, by omega⟩
              exact ⟨_, score_any _ _ l i cs wo HSLo.out HCSo.out HSZ.out (by have := HN.out; omega), fun h => absurd hin h⟩
            · refine ⟨(0, 0), (score_out _ _ l at_ wo HSLo.out (by have := HN.out; omega)).mono fun e w' ⟨he, hw⟩ => ⟨he, hw ▸ Below.refl _ _⟩, fun _ => rfl⟩
          have HC1 := Lib.hid hp.1
          have HP := Lib.hid hp.2
          clear hp
          go_wp2_with fail
          refine HC1.out.mono ?_
          rintro e w4 ⟨rfl, hb4⟩
          have HB4 := Lib.hid (HB.out.trans (hb4.mono HB.out.size))
          clear hb4 HC1 HST HSLo HCSo HB
          by_cases hin : 0 ≤ at_ ∧ at_ < (n : Int)
          · obtain ⟨hi1, hi2⟩ := hin
            clear HP
            go_wp2_with fail
            refine (wakes21_any w4).mono ?_
            rintro e w5 ⟨rfl, hb5⟩
            have HB5 := Lib.hid (HB4.out.trans (hb5.mono HB4.out.size))
            clear hb5
            go_wp2_with fail
            go_ret
            exact ⟨rfl, HB5.out⟩
          · obtain rfl := HP.out hin
            by_cases hi1 : 0 ≤ at_
            · have hi2 : ¬ at_ < (n : Int) := fun h => hin ⟨hi1, h⟩
              clear hin HP
              go_wp2_with fail
              refine (wakes21_any w4).mono ?_
              rintro e w5 ⟨rfl, hb5⟩
              have HB5 := Lib.hid (HB4.out.trans (hb5.mono HB4.out.size))
              clear hb5
              go_wp2_with fail
              go_ret
              exact ⟨rfl, HB5.out⟩
            · clear hin HP
              go_wp2_with fail
              refine (wakes21_any w4).mono ?_
              rintro e w5 ⟨rfl, hb5⟩
              have HB5 := Lib.hid (HB4.out.trans (hb5.mono HB4.out.size))
              clear hb5
              go_wp2_with fail
              go_ret
              exact ⟨rfl, HB5.out⟩
end Go.Proofs.Ytfkcldaogfengaa
end

section
/-
  MinerOrder: the entries as plain data and in memory. Conditions: none beyond each theorem's own.
-/
namespace Go.Proofs.Ytfkcldaogfengaa
open Go.RowKit Go.BigFrame Go.ChangeShapes Go.WideShapes
set_option linter.unusedVariables false
set_option linter.unusedSimpArgs false

def oZ (i : Nat) (f : Int) : PSm := ⟨[128], 0, 0, 0, i, (f % 3).toNat⟩
def oE (i : Nat) (f : Int) : PE := ⟨makeT [] (oZ i f), idB (500 + (i : Int)), f, 69 + 49 * (f % 3)⟩
def oL (fs : List Int) (n : Nat) : List PE := (List.range n).map fun i => oE i (fs.getD i 0)
theorem oL_len (fs : List Int) (n : Nat) : (oL fs n).length = n := by unfold oL; rw [List.length_map, List.length_range]
theorem oL_at {fs : List Int} {n i : Nat} (hi : i < n) : (oL fs n)[i]? = some (oE i (fs.getD i 0)) := by
  unfold oL
  rw [List.getElem?_map, List.getElem?_range hi]
  rfl
theorem oL_succ {fs : List Int} {k : Nat} {f : Int} (hf : fs[k]? = some f) : oL fs (k + 1) = oL fs k ++ [oE k f] := by
  unfold oL
  rw [List.range_succ, List.map_append]
  congr 1
  simp only [List.map_cons, List.map_nil]
  rw [List.getD_eq_getElem?_getD, hf]
  rfl
theorem oL_mem {fs : List Int} {n : Nat} {x : PE} (h : x ∈ oL fs n) : ∃ i, i < n ∧ x = oE i (fs.getD i 0) := by
  obtain ⟨i, hi, rfl⟩ := List.mem_map.1 h
  exact ⟨i, List.mem_range.1 hi, rfl⟩
theorem oL_sized {fs : List Int} {n : Nat} (hn : n ≤ 12) (hf : ∀ f ∈ fs, 0 ≤ f ∧ f ≤ 4294967295) : Sized (oL fs n) := by
  have hg : ∀ i, 0 ≤ fs.getD i 0 ∧ fs.getD i 0 ≤ 4294967295 := fun i => by
    rw [List.getD_eq_getElem?_getD]
    cases h : fs[i]? with
    | none => simp
    | some f => exact hf f (List.mem_of_getElem? h)
  refine ⟨by rw [oL_len]; exact hn, fun x hx => ?_, fun x hx => ?_⟩
  · obtain ⟨i, -, rfl⟩ := oL_mem hx
    exact hg i
  · obtain ⟨i, -, rfl⟩ := oL_mem hx
    have := hg i
    show 1 ≤ 69 + 49 * (fs.getD i 0 % 3) ∧ 69 + 49 * (fs.getD i 0 % 3) ≤ 2000
    omega
theorem oL_few (fs : List Int) (n : Nat) : Few (oL fs n) := fun x hx => by
  obtain ⟨i, -, rfl⟩ := oL_mem hx
  have h1 := makeT_ins [] (oZ i (fs.getD i 0))
  have h2 := makeT_outs (l := []) (z := oZ i (fs.getD i 0)) (by show (fs.getD i 0 % 3).toNat < 8; omega)
  refine ⟨Nat.le_trans h1 (by decide), Nat.le_trans h2 (by decide), fun y hy => ?_⟩
  rw [makeT_wit [] (oZ i (fs.getD i 0)) y hy]
  simp
theorem idB_unlike : ∀ i : Nat, i < 12 → idB 0 ≠ idB (500 + (i : Int)) := by decide +kernel
theorem oL_lone {fs : List Int} {n : Nat} (hn : n ≤ 12) : ∀ i k, edge (oL fs n) i k = false := by
  intro i k
  cases h : edge (oL fs n) i k with
  | false => rfl
  | true =>
    obtain ⟨h1, h2⟩ := edge_lt h
    rw [oL_len] at h1 h2
    rw [edge_at (oL_at h1) (oL_at h2)] at h
    unfold hangsB at h
    rw [List.any_eq_true] at h
    obtain ⟨y, hy, hh⟩ := h
    have hid : y.id = idB 0 := by
      obtain ⟨q, hq, rfl⟩ := List.mem_map.1 (show y ∈ (List.range (min [128].length 4)).map (makeIn [] (oZ i (fs.getD i 0))) from hy)
      have hq0 : q = 0 := by have := List.mem_range.1 hq; simp at this; omega
      subst hq0
      exact (by decide +kernel : fromId [] 128 = idB 0)
    unfold hangsI at hh
    rw [Bool.and_eq_true, decide_eq_true_eq, hid] at hh
    exact absurd hh.1 (idB_unlike k (by omega))
theorem oL_lock {fs : List Int} {n p : Nat} (hp : p < n) : (txI (oL fs n) p).lock = p := by rw [txI_at (oL_at hp)]; rfl
def lastP (ps : List Nat) : Nat → Int
  | 0 => -1
  | k + 1 => match ps[k]? with | some p => (p : Int) | none => -1
theorem lastP_succ {ps : List Nat} {k p : Nat} (h : ps[k]? = some p) : lastP ps (k + 1) = (p : Int) := by show (match ps[k]? with | some p => (p : Int) | none => -1) = _; rw [h]
theorem ahead_next {l : List PE} {ps : List Nat} (h : ps.Pairwise (Ahead l)) {k i j : Nat} (hi : ps[k]? = some i) (hj : ps[k + 1]? = some j) : Ahead l i j := by
  obtain ⟨h1, e1⟩ := List.getElem?_eq_some_iff.1 hi
  obtain ⟨h2, e2⟩ := List.getElem?_eq_some_iff.1 hj
  have := List.pairwise_iff_getElem.1 h k (k + 1) h1 h2 (by omega)
  rwa [e1, e2] at this
theorem ahead_cmp {l : List PE} (hz : Sized l) {i j : Nat} {x y : PE} (hx : l[i]? = some x) (hy : l[j]? = some y) (h : Ahead l i j) : ¬ cmpR x.fee x.size y.fee y.size < 0 ∧ (cmpR x.fee x.size y.fee y.size = 0 → ¬ (j : Int) < (i : Int)) := by
  have pr : ∀ {q : Nat} {z : PE}, l[q]? = some z → pricedB z.fee z.size = true := fun {q z} hq => by
    have := sum_priced hz (ps := [q]) (by simp) (fun i hi => by rw [List.mem_singleton.1 hi]; exact (List.getElem?_eq_some_iff.1 hq).1) (by simp)
    rwa [feeL_one hq] at this
  obtain ⟨h1, h2⟩ := h
  unfold LeR at h1 h2
  rw [feeL_one hx, feeL_one hy] at h1 h2
  dsimp only at h1 h2
  refine ⟨fun hc => ?_, fun hc hji => ?_⟩
  · rw [cmpR_neg (pr hx) (pr hy)] at hc
    omega
  · have h3 : ¬ 0 < cmpR x.fee x.size y.fee y.size := by omega
    rw [cmpR_pos (pr hx) (pr hy)] at h3
    have := h2 (by omega)
    omega
noncomputable def hiN (l : List PE) (thr : Int) (k : Nat) : Nat := ((List.range k).filter fun i => !lowB (feeL l [i]).1 (feeL l [i]).2 thr).length
theorem hiN_succ {l : List PE} {thr : Int} {k : Nat} {x : PE} (hx : l[k]? = some x) : hiN l thr (k + 1) = hiN l thr k + if lowB x.fee x.size thr = true then 0 else 1 := by
  unfold hiN
  rw [List.range_succ, List.filter_append, List.length_append]
  congr 1
  simp only [List.filter_cons, List.filter_nil, feeL_one hx]
  cases lowB x.fee x.size thr <;> rfl
theorem hiN_le (l : List PE) (thr : Int) (k : Nat) : hiN l thr k ≤ k := by
  have := List.length_filter_le (fun i => !lowB (feeL l [i]).1 (feeL l [i]).2 thr) (List.range k)
  rwa [List.length_range] at this

/-! ### a row of entries, each with a transaction of its own -/
def entAgg (p : EnV) : Value := .agg (entC p.1 p.2.1 p.2.2).toArray
def EntFar (w : World) (v : Value) (p : EnV) : Prop := ∀ wx : World, (∀ b, some b ≠ v.ownBlock → b < w.heap.size → wx.heap[b]? = w.heap[b]?) → EntAt wx p.2.1 p.2.2 p.1
structure EnF (base : Nat) (w : World) (v : Value) (ps : List EnV) : Prop where
  row : w.ownsRow base 43 7 v ps.length (ps.flatMap enRow7)
  far : ∀ p ∈ ps, EntFar w v p
theorem EnF.nil (base : Nat) (w : World) : EnF base w (.slice none 0 0) [] := ⟨World.ownsRow_nil _ _ _ _, fun p hp => by simp at hp⟩
theorem EnF.below {base : Nat} {w w' : World} {v : Value} {ps : List EnV} (h : EnF base w v ps) (hb : Below w.heap.size w w') : EnF base w' v ps :=
  ⟨ownsRow_below h.row hb, fun p hp wx hk => h.far p hp wx fun b hne hlt => (hk b hne (Nat.lt_of_lt_of_le hlt hb.size)).trans (hb.block b hlt)⟩
theorem EnF.sl {base : Nat} {w : World} {v : Value} {ps : List EnV} (h : EnF base w v ps) : SlAt rpE w v (ps.map (·.1)) := by
  obtain ⟨a, c, e, h1, h2⟩ := ownsRow_shape h.row
  subst e
  refine ⟨a, c, by rw [List.length_map], by rw [List.length_map]; exact h1, h2, fun i x hi => ?_⟩
  rw [List.getElem?_map] at hi
  obtain ⟨p, hp, rfl⟩ := Option.map_eq_some_iff.1 hi
  have hil : i < ps.length := (List.getElem?_eq_some_iff.1 hp).1
  obtain ⟨b, rfl, hb, hb2⟩ := ownsRow_some h.row (by omega)
  have hx := h.far p (List.mem_of_getElem? hp) w fun _ _ _ => rfl
  refine ⟨b, 0, enRow7 p, rfl, rfl, fun j u hj => ?_, p.2.1, p.2.2, rfl, hx.ins, hx.outs, hx.ok⟩
  have hj7 : j < 7 := (List.getElem?_eq_some_iff.1 hj).1
  have := h.row.cells (g := b) rfl (i * 7 + j) u (by rw [flat_at enRow7 7 enRow7_len ps i p hp j hj7]; exact hj)
  rw [Addr.add_lit] at this
  simpa [rpE] using this
theorem EnF.app {base b2 : Nat} {w : World} {v va vb : Value} {ps : List EnV} {x : PE} (h : EnF base w v ps) (ht : TxOwn b2 w (.agg #[.int .u32 x.tx.ver, va, vb, .int .u32 x.tx.lock]) x.tx) (hok : x.Ok) (h1 : va.oneCell' = true) (h2 : vb.oneCell' = true) (hown : ∀ b, v.ownBlock = some b → b < b2) (hn : ps.length < 1000000) (hb : base ≤ w.heap.size) :
    ∃ a' c' w', (Builtin.append_ #[24, 24] 24 #[v, .slice (some ⟨w.heap.size, 0, none⟩) 1 1]).run Try.prog (w.alloc (.cells #[.int .u32 x.tx.ver, va, vb, .int .u32 x.tx.lock, .string x.id, .int .i64 x.fee, .int .i64 x.size] 43)) = .ok (.slice a' (ps.length + 1) c') w' ∧
      EnF base w' (.slice a' (ps.length + 1) c') (ps ++ [(x, va, vb)]) ∧ Below base w w' := by
  obtain ⟨i0, hi, hz0, hz1, hz2⟩ := info_parts info_en7
  obtain ⟨a2, c2, w2, hrun, hown2, hb2, hg2, hv2⟩ := append_one (P := Try.prog) Try.underlying24 hi hz0 hz1 hz2 rfl h.row #[.int .u32 x.tx.ver, va, vb, .int .u32 x.tx.lock, .string x.id, .int .i64 x.fee, .int .i64 x.size] rfl (by
    intro u hu; simp only [List.mem_cons, List.not_mem_nil, or_false] at hu; rcases hu with rfl | rfl | rfl | rfl | rfl | rfl | rfl; rfl; exact h1; exact h2; rfl; rfl; rfl; rfl) (by rw [maxLen_eq]; omega) (by omega) hb (ty := 24)
  have keep : ∀ (wx : World), (∀ b, some b ≠ (Value.slice a2 (ps.length + 1) c2).ownBlock → b < w2.heap.size → wx.heap[b]? = w2.heap[b]?) → ∀ b, some b ≠ v.ownBlock → b < w.heap.size → wx.heap[b]? = w.heap[b]? := by
    intro wx hk b hne hlt
    have hs := hg2.size
    simp at hs
    rw [hk b (by
      rcases hv2 with e | e
      · rw [e]; exact hne
      · rw [e]; intro e2; injection e2; omega) (by omega), hg2.block b (by simp; omega) hne]
    exact Below.heap_alloc w _ b hlt
  refine ⟨a2, c2, w2, hrun, ⟨?_, fun p hp wx hk => ?_⟩, hb2⟩
  · rw [List.length_append, List.flatMap_append]
    simpa [enRow7, entC] using hown2
  · have hk2 := keep wx hk
    rcases List.mem_append.1 hp with hp | hp
    · exact h.far p hp wx hk2
    · rw [List.mem_singleton.1 hp]
      obtain ⟨⟨vi, vo, qs, e, hq, g1, g2, g3⟩, g4, g5⟩ := ht
      obtain ⟨rfl, rfl⟩ : va = vi ∧ vb = vo := by simpa using e
      have k1 := g1.kept (w' := wx) fun b hb => hk2 b (fun e2 => by have := hown b e2.symm; have := (g1.lt hb).1; omega) (g1.lt hb).2
      have k2 := g2.kept (w' := wx) fun b hb => hk2 b (fun e2 => by have := hown b e2.symm; have := (g2.row.lt b hb).1; omega) (g2.row.lt b hb).2
      exact ⟨hq ▸ k1.sl, k2.sl, hok⟩
set_option maxRecDepth 100000 in
theorem open_u32s {H : Type} {enc : TypeId × Value → H} {w : World} {v : Value} {d : DataW H} {ps : List MemPlace} (hv : Value.okWide Try.prog w .any 0 50 v) (h : DataW.Trod enc Try.prog w 0 (fun _ => true) true 50 v d ps) :
    ∃ l : List Int, SlAt (rpInt .u32) w v l := by
  obtain ⟨a, n, c, rfl⟩ := Go.WideShapes.okWide_slice Try.underlying50 hv
  obtain ⟨fuel, hf⟩ := h
  obtain ⟨l, u, e, hu⟩ := rp_of_slice (R := rpInt .u32) Try.underlying50 (by kernel_rfl) (by decide) (fun _ _ _ => rp_of_int Try.underlying37) hf
  have e' : Value.slice a n c = u := by simpa [Value.cells] using e
  exact ⟨l, e' ▸ hu⟩
end Go.Proofs.Ytfkcldaogfengaa
end

section
/-
  A map from places to counts that the call makes. Conditions: places of reasonable size.
-/
namespace Go.Proofs.Ytfkcldaogfengaa
open Go.RowKit Go.BigFrame Go.Maps
set_option linter.unusedVariables false
set_option linter.unusedSimpArgs false

theorem lawI : Keyed Try.prog 3 := int_keyed Try.underlying3
theorem zeroI (w : World) : (zeroValue 3).run Try.prog w = .ok (.int .i64 0) w := by kernel_rfl
structure CntM (w : World) (B : Nat) (f : Nat → Nat) (cn : Nat) : Prop where
  owns : ∃ n, ∃ D : DataW Unit, w.ownsMap Try.prog 3 (plainElem Try.prog 3) B n D ∧ n ≤ cn ∧ IsMap D ∧ ∀ k : Nat, D.atKey (.int .i64 (k : Int)) (.lit (.int .i64 0)) = .lit (.int .i64 (f k : Int))
theorem CntM.made (w : World) : CntM (w.alloc (.map #[] 0)) w.heap.size (fun _ => 0) 0 := ⟨0, _, World.ownsMap_made w _ _ _, Nat.le_refl _, isMap_empty, fun k => rfl⟩
theorem CntM.lt {w : World} {B cn : Nat} {f : Nat → Nat} (h : CntM w B f cn) : B < w.heap.size := by
  obtain ⟨n, D, hown, -⟩ := h.owns
  exact hown.lt
theorem CntM.kept {w w' : World} {B cn : Nat} {f : Nat → Nat} (h : CntM w B f cn) (hk : w'.heap[B]? = w.heap[B]?) : CntM w' B f cn := by
  obtain ⟨n, D, hown, hn, hD, hat⟩ := h.owns
  obtain ⟨es, clock, hb, F, hs, rfl⟩ := hown
  exact ⟨n, _, ⟨es, clock, hk.trans hb, F, hs, rfl⟩, hn, hD, hat⟩
theorem CntM.below {w w' : World} {B cn : Nat} {f : Nat → Nat} (h : CntM w B f cn) (hb : Below w.heap.size w w') : CntM w' B f cn := h.kept (hb.block B h.lt)
theorem keyI {k : Nat} (hk : k < 1000000) : keyOf Try.prog 3 (.int .i64 (k : Int)) = some (.int .i64 (k : Int)) := keyOf_int_mk Try.underlying3 (by simp [Lit.wf, IntKind.min, IntKind.max, IntKind.signed, IntKind.bits]; omega)
set_option maxRecDepth 100000 in
theorem CntM.look {w : World} {B cn : Nat} {f : Nat → Nat} (h : CntM w B f cn) {k : Nat} (hk : k < 1000000) : (Instr.lookup 46 (.map (some B)) (.int .i64 (k : Int)) false).run Try.prog w = .ok (.int .i64 (f k : Int)) w := by
  obtain ⟨n, D, hown, hn, hD, hat⟩ := h.owns
  obtain ⟨c, hrun, hc, -⟩ := hown.lookup_int lawI Try.underlying46 Try.underlying3 (zeroI w) (keyI hk)
  rw [hat k] at hc
  injection hc with hc
  injection hc with _ hc
  rw [hrun, hc]
set_option maxRecDepth 100000 in
theorem CntM.put {w : World} {B cn : Nat} {f : Nat → Nat} (h : CntM w B f cn) {k v : Nat} (hk : k < 1000000) (hv : v < 1000000) (hc : cn < 1000000) :
    ∃ w', (Instr.mapUpdate 46 (.map (some B)) (.int .i64 (k : Int)) (.int .i64 (v : Int))).run Try.prog w = .ok () w' ∧ CntM w' B (fun j => if j = k then v else f j) (cn + 1) ∧ w.grownBy w' (some B) := by
  obtain ⟨n, D, hown, hn, hD, hat⟩ := h.owns
  have hwf : (Lit.int .i64 (v : Int)).wf = true := by simp [Lit.wf, IntKind.min, IntKind.max, IntKind.signed, IntKind.bits]; omega
  obtain ⟨w', hrun, hown2, hg⟩ := hown.update lawI Try.underlying46 (by unfold maxLen; omega) (keyI hk) (plainElem_int Try.underlying3 hwf)
  refine ⟨w', hrun, ⟨n + 1, _, hown2, Nat.succ_le_succ hn, hown2.isMap, fun j => ?_⟩, hg⟩
  by_cases hj : j = k
  · subst hj
    rw [if_pos rfl, atKey_put_same hD (by trivial)]
  · rw [if_neg hj, atKey_put_other (by intro e; injection e with _ e; omega), hat j]
set_option maxRecDepth 100000 in
theorem kin_look {C : World → Prop} {w : World} (hC : C = fun w' => Below w.heap.size w w') {B cn : Nat} {f : Nat → Nat} (h : CntM w B f cn) {k : Nat} (hk : k < 1000000) :
    ∀ y : Kin C, (Instr.lookup 46 (.map (some B)) (.int .i64 (k : Int)) false).run Try.prog y.w = .ok (.int .i64 (f k : Int)) y.w := by
  subst hC
  exact fun y => (h.below y.has).look hk
/-- Below, when only one block from a base on was written. -/
theorem below_cnt {B : Nat} {w0 w w' : World} (h : Below w0.heap.size w0 w) (hB : w0.heap.size ≤ B) (hg : w.grownBy w' (some B)) : Below w0.heap.size w0 w' :=
  h.grown hg h.size fun j hj => by cases hj; exact hB
def cntF (qs : List Nat) (j : Nat) : Nat := if qs.contains j then 1 else 0
theorem cnt_nil : cntF [] = fun _ => 0 := rfl
theorem cnt_snoc {qs : List Nat} {p : Nat} : (fun j => if j = p then 1 else cntF qs j) = cntF (qs ++ [p]) := by
  funext j
  unfold cntF
  by_cases h : j = p
  · subst h
    simp
  · simp [h]
theorem cnt_yes {qs : List Nat} {p : Nat} (h : p ∈ qs) : cntF qs p = 1 := by unfold cntF; rw [if_pos (by simpa using h)]
theorem cnt_no {qs : List Nat} {p : Nat} (h : p ∉ qs) : cntF qs p = 0 := by unfold cntF; rw [if_neg (by simpa using h)]
end Go.Proofs.Ytfkcldaogfengaa
end

section
/-
  MinerKeeps: the walk. Conditions: none beyond the arguments' own.
-/
namespace Go.Proofs.Ytfkcldaogfengaa
open Go.RowKit Go.BigFrame Go.Maps
set_option linter.unusedVariables false
set_option linter.unusedSimpArgs false

theorem u16_bd {n : Int} (h : (Lit.int .u16 n).wf = true) : 0 ≤ n ∧ n ≤ 65535 := by simpa [Lit.wf, IntKind.min, IntKind.max, IntKind.signed, IntKind.bits] using h
set_option maxRecDepth 100000 in
set_option maxHeartbeats 8000000 in
theorem minerKeeps_walk (v0 : Value) (zs : List PSm) (thr most : Int) (w : World) (h0 : SlAt rpSm w v0 zs) (h1 : (Lit.int .u16 thr).wf = true) (h2 : (Lit.int .u16 most).wf = true) :
    Calls Try.prog 5 #[v0, .int .u16 thr, .int .u16 most] w (BIs true w) := by
  have HC := Lib.hid (ten_call h0)
  have HLI := Lib.hid (ten_listed h0)
  have HLE := Lib.hid (ten_len zs)
  generalize listL (zs.take 10) = l at *
  obtain ⟨a, c, rfl, -, -⟩ := h0.shape
  obtain ⟨z0, hz0⟩ : ∃ z0, z0 = zs.length := ⟨_, rfl⟩
  rw [← hz0] at HC ⊢
  have b1 := u16_bd h1
  have b2 := u16_bd h2
  have ew1 : IntKind.i64.wrap thr = thr := by rw [IntKind.wrap_i64]; omega
  have ew2 : IntKind.i64.wrap most = most := by rw [IntKind.wrap_i64]; omega
  obtain ⟨mm, hmm⟩ : ∃ mm, mm = most % 1500 := ⟨_, rfl⟩
  have em : most.tmod 1500 = mm := (Int.tmod_eq_emod_of_nonneg (by omega)).trans hmm.symm
  have em' : most % 1500 = mm := hmm.symm
  have HMM := Lib.hid (show 0 ≤ mm ∧ mm < 1500 by omega)
  have HTR := Lib.hid (show -9223372036854775808 ≤ thr ∧ thr ≤ 9223372036854775807 by omega)
  clear h0 h1 h2 hz0 hmm
  go_enter Try.func5, Try.ntmps5
  go_wp2_with fail
  refine HC.out.mono ?_
  rintro e w1 ⟨v, rfl, hsl, hb⟩
  have HB1 := Lib.hid hb
  have HSL := Lib.hid hsl
  obtain ⟨la, lc, rfl, hl1, hl2⟩ := hsl.shape
  rw [maxLen_eq] at hl2
  obtain ⟨n, hn⟩ : ∃ n, n = l.length := ⟨_, rfl⟩
  have HN := Lib.hid hn
  have hn10 : n ≤ 10 := by have := HLE.out; omega
  rw [← hn] at hl1 HSL ⊢
  have HSZ := Lib.hid (HLI.out.sized (by have := HLE.out; omega))
  have HFW := Lib.hid HLI.out.few
  clear hn hsl hb HC
  have HT1 := Lib.hid (template_any _ l thr mm w1 HSL.out HSZ.out HFW.out HTR.out (by have := HMM.out; omega))
  have HPL := Lib.hid (tmplL_lt l thr mm)
  have HPE := Lib.hid (tmplL_len l thr mm)
  have HND := Lib.hid (tmplL_nodup l thr mm)
  have HSH := Lib.hid (tmplL_shut l thr mm)
  have HFI := Lib.hid (keeps_size (l := l) (thr := thr) (m0 := mm) HMM.out.1)
  generalize tmplL l thr mm = ps at *
  go_wp2_with fail
  refine HT1.out.mono ?_
  rintro e w2 ⟨v, rfl, hg, hb⟩
  obtain ⟨ga, gc, rfl, -, -⟩ := hg.shape
  obtain ⟨pn, hpn⟩ : ∃ pn, pn = ps.length := ⟨_, rfl⟩
  have hmp : (ps.map (txI l)).length = pn := by rw [List.length_map, hpn]
  rw [hmp] at hg ⊢
  have HPN := Lib.hid hpn
  have hpn10 : pn ≤ 10 := by have := HPE.out; have := HLE.out; omega
  have HG := Lib.hid hg
  have HS2 := Lib.hid (HSL.out.below hb)
  have HB2 := Lib.hid (HB1.out.trans (hb.mono HB1.out.size))
  clear hg hb hmp hpn HT1 HSL
  have hmk := @run_makeMap Try.prog
  go_wp2_with fail
  clear hmk
  have hcm := CntM.made w2
  have hz := heap_alloc_new w2 (.map #[] 0)
  have hal : Below w2.heap.size w2 (w2.alloc (.map #[] 0)) := (Below.refl _ _).alloc (Nat.le_refl _) _
  obtain ⟨B, hB⟩ : ∃ q, q = w2.heap.size := ⟨_, rfl⟩
  rw [← hB] at hz ⊢
  generalize w2.alloc (.map #[] 0) = w3 at *
  have HST := Lib.hid (show CntM w3 B (cntF (ps.take 0)) 0 ∧ Below w2.heap.size w2 w3 from ⟨by rw [List.take_zero, cnt_nil, hB]; exact hcm, hal⟩)
  have HBB := Lib.hid (show w2.heap.size ≤ B by omega)
  clear hcm hal hz hB
  go_loopg [9, 32] pn (fun g s i wr => ∃ k : Nat, g = pn - k ∧ k ≤ pn ∧ i = .int .i64 k ∧ s = .int .i64 (feeL l (ps.take k)).2 ∧ CntM wr B (cntF (ps.take k)) k ∧ Below w2.heap.size w2 wr)
  case atStart => exact ⟨0, by omega, by omega, rfl, rfl, HST.out.1, HST.out.2⟩
  case round =>
    clear HST
    rename World => wo
    obtain ⟨k, hgk, hk, rfl, rfl, hcm, hb⟩ := hrel
    have HGK := Lib.hid hgk
    have HCM := Lib.hid hcm
    have HB := Lib.hid hb
    clear hgk hcm hb
    have hbd := feeL_bd HSZ.out (ps := ps.take k) fun i hi => HPL.out i (List.mem_of_mem_take hi)
    rw [List.length_take] at hbd
    obtain ⟨S, hS⟩ : ∃ S, S = (feeL l (ps.take k)).2 := ⟨_, rfl⟩
    rw [← hS] at hbd ⊢
    have HS := Lib.hid hS
    have hSb : 0 ≤ S ∧ S ≤ 20000 := by omega
    clear hbd hS
    by_cases hlt : k < pn
    · obtain ⟨gb, go_, tg, i1, n1, c1, i2, n2, c2, rfl, htg, htx, g0, g1, g2, g3⟩ := (HG.out.below HB.out).txs hlt
      rw [List.getElem?_map] at htg
      obtain ⟨p, hp, rfl⟩ := Option.map_eq_some_iff.1 htg
      have hpn' : p < n := by rw [HN.out]; exact HPL.out p (List.mem_of_getElem? hp)
      have HP := Lib.hid hp
      have hpz : ¬ ((p : Int) < 0) := by omega
      obtain ⟨T, hT⟩ : ∃ T, T = txI l p := ⟨_, rfl⟩
      rw [← hT] at htx g0 g3
      have HT := Lib.hid hT
      have HTX := Lib.hid htx
      clear htg htx hp hT
      go_wp2_with fail
      have hz := heap_alloc_new wo (.cells #[.int .u32 T.ver, .slice i1 n1 c1, .slice i2 n2 c2, .int .u32 T.lock] 41)
      have hal : Below wo.heap.size wo (wo.alloc (.cells #[.int .u32 T.ver, .slice i1 n1 c1, .slice i2 n2 c2, .int .u32 T.lock] 41)) := (Below.refl _ _).alloc (Nat.le_refl _) _
      obtain ⟨X, hX⟩ : ∃ q, q = wo.heap.size := ⟨_, rfl⟩
      rw [← hX] at hz ⊢
      generalize wo.alloc (.cells #[.int .u32 T.ver, .slice i1 n1 c1, .slice i2 n2 c2, .int .u32 T.lock] 41) = w4 at *
      have HX := Lib.hid hz
      have HX2 := Lib.hid (show w4.heap[X]? = some (.cells #[.int .u32 T.ver, .slice i1 n1 c1, .slice i2 n2 c2, .int .u32 T.lock] 41 (0, 0)) from hz)
      have HTX4 := Lib.hid (HTX.out.below hal)
      have HCM4 := Lib.hid (HCM.out.below hal)
      have HB4 := Lib.hid (HB.out.trans (hal.mono HB.out.size))
      clear hz hal hX g0 g1 g2 g3 HTX HCM HB HX
      go_loopg [13, 38] n (fun g s i wr => ∃ j : Nat, g = n - j ∧ j ≤ n ∧ i = .int .i64 j ∧ s = .int .i64 (lastOf l T j) ∧ Below w4.heap.size w4 wr)
      case atStart => exact ⟨0, by omega, by omega, rfl, rfl, Below.refl _ _⟩
      case round =>
        rename World => wq
        obtain ⟨j, hgj, hj, rfl, rfl, hb⟩ := hrel
        have HGJ := Lib.hid hgj
        have HBq := Lib.hid hb
        have HX3 := Lib.hid (stay HX2.out hb)
        clear hgj hb
        by_cases hlj : j < n
        · obtain ⟨eb, eo, y, j1, m1, e1, j2, m2, e2, hla, hy, hye, -, y0, y1, y2, y3, y4, y5, y6⟩ := ((HS2.out.below HB4.out).below HBq.out).ent hlj
          subst hla
          have HLA := Lib.hid (show lastOf l T (j + 1) = if sameTx y.tx T = true then (j : Int) else lastOf l T j by rw [lastOf, txI_at hy])
          have HYE := Lib.hid hye
          clear hy hye
          obtain ⟨lv, hlv⟩ : ∃ lv, lv = lastOf l T j := ⟨_, rfl⟩
          rw [← hlv] at HLA ⊢
          clear hlv
          obtain ⟨sb, hsb⟩ : ∃ sb, sb = sameTx y.tx T := ⟨_, rfl⟩
          rw [← hsb] at HLA
          go_upto_region 12 with fail
          have hz := heap_alloc_new wq (.cells #[.int .u32 y.tx.ver, .slice j1 m1 e1, .slice j2 m2 e2, .int .u32 y.tx.lock, .string y.id, .int .i64 y.fee, .int .i64 y.size] 43)
          have hal : Below wq.heap.size wq (wq.alloc (.cells #[.int .u32 y.tx.ver, .slice j1 m1 e1, .slice j2 m2 e2, .int .u32 y.tx.lock, .string y.id, .int .i64 y.fee, .int .i64 y.size] 43)) := (Below.refl _ _).alloc (Nat.le_refl _) _
          obtain ⟨Y, hY⟩ : ∃ q, q = wq.heap.size := ⟨_, rfl⟩
          rw [← hY] at hz ⊢
          generalize wq.alloc (.cells #[.int .u32 y.tx.ver, .slice j1 m1 e1, .slice j2 m2 e2, .int .u32 y.tx.lock, .string y.id, .int .i64 y.fee, .int .i64 y.size] 43) = w5 at *
          have z0 : w5.cell? ⟨Y, 0, none⟩ = some (.int .u32 y.tx.ver) := cell_at hz
          have z1 : w5.cell? ⟨Y, 1, none⟩ = some (.slice j1 m1 e1) := cell_at hz
          have z2 : w5.cell? ⟨Y, 2, none⟩ = some (.slice j2 m2 e2) := cell_at hz
          have z3 : w5.cell? ⟨Y, 3, none⟩ = some (.int .u32 y.tx.lock) := cell_at hz
          have HX5 := stay HX3.out hal
          have x0 : w5.cell? ⟨X, 0, none⟩ = some (.int .u32 T.ver) := cell_at HX5
          have x1 : w5.cell? ⟨X, 1, none⟩ = some (.slice i1 n1 c1) := cell_at HX5
          have x2 : w5.cell? ⟨X, 2, none⟩ = some (.slice i2 n2 c2) := cell_at HX5
          have x3 : w5.cell? ⟨X, 3, none⟩ = some (.int .u32 T.lock) := cell_at HX5
          have hsm := same_any _ _ y.tx T w5 ((HYE.out.below hal).tx) ((HTX4.out.below HBq.out).below hal)
          rw [← hsb] at hsm
          have HSM := Lib.hid hsm
          have HB5 := Lib.hid (HBq.out.trans (hal.mono HBq.out.size))
          clear hz hal hY y0 y1 y2 y3 y4 y5 y6 HX5 hsm hsb HYE
          go_wp2_with fail
          refine HSM.out.mono ?_
          rintro e w6 ⟨rfl, hb⟩
          have HB6 := Lib.hid (HB5.out.trans (hb.mono HB5.out.size))
          clear hb HB5 HSM z0 z1 z2 z3 x0 x1 x2 x3
          cases sb
          · go_wp2_with fail
            go_roundg (n - (j + 1))
            case measure => have := HGJ.out; omega
            case rel => exact ⟨j + 1, rfl, by omega, by go_num, by rw [HLA.out]; rfl, HB6.out⟩
          · go_wp2_with fail
            go_roundg (n - (j + 1))
            case measure => have := HGJ.out; omega
            case rel => exact ⟨j + 1, rfl, by omega, by go_num, by rw [HLA.out]; rfl, HB6.out⟩
        · obtain rfl : n = j := by omega
          have hlast : lastOf l T n = (p : Int) := by
            rw [HT.out, HN.out]
            have h := HLI.out.last (p := p) (by have := HN.out; omega) (Nat.le_refl l.length)
            rw [if_pos (by have := HN.out; omega)] at h
            exact h
          rw [hlast]
          clear hlast
          have hcm := HCM4.out.below HBq.out
          have hlk := hcm.look (k := p) (by omega)
          have hnp : p ∉ ps.take k := fun h => by
            have h1 := HND.out
            rw [← List.take_append_drop k ps, List.nodup_append] at h1
            refine h1.2.2 p h p ?_ rfl
            rw [List.mem_iff_getElem?]
            exact ⟨0, by rw [List.getElem?_drop]; exact HP.out⟩
          rw [cnt_no hnp] at hlk
          obtain ⟨w9, hup0, hcm9, hg9⟩ := hcm.put (k := p) (v := 1) (by omega) (by omega) (by omega)
          rw [cnt_snoc, ← snoc_take HP.out] at hcm9
          have hup : (Instr.mapUpdate 46 (.map (some B)) (.int .i64 (p : Int)) (.int .i64 1)).run Try.prog wq = .ok () w9 := hup0
          have hlk0 : (Instr.lookup 46 (.map (some B)) (.int .i64 (p : Int)) false).run Try.prog wq = .ok (.int .i64 0) wq := hlk
          have HCM9 := Lib.hid hcm9
          have hbw := HB4.out.trans (HBq.out.mono HB4.out.size)
          have HB9 := Lib.hid (below_cnt hbw HBB.out hg9)
          obtain ⟨eb, eo, y, j1, m1, e1, j2, m2, e2, hla, hy, hye, -, y0, y1, y2, y3, y4, y5, y6⟩ := (HS2.out.below HB9.out).ent hpn'
          subst hla
          have hsz := HSZ.out.size y (List.mem_of_getElem? hy)
          have hsum : IntKind.i64.wrap (S + y.size) = S + y.size := by rw [IntKind.wrap_i64]; omega
          have HSS := Lib.hid (show (feeL l (ps.take (k + 1))).2 = S + y.size by rw [feeL_take HP.out hy, ← HS.out])
          clear hcm hlk hup0 hcm9 hg9 hbw hy hye hnp y0 y1 y2 y3 y4 y5 hsz HB4 HCM4 HTX4 HX2 HX3
          go_wp2_with fail
          go_roundg (pn - (k + 1))
          case measure => have := HGK.out; omega
          case rel => exact ⟨k + 1, rfl, by omega, by go_num, by rw [HSS.out], HCM9.out, HB9.out⟩
    · obtain rfl : pn = k := by omega
      have hcm := HCM.out
      rw [List.take_of_length_le (by rw [HPN.out]; omega)] at hcm
      have HCM := Lib.hid hcm
      have HFI := Lib.hid (show S ≤ mm by have h := HS.out; rw [List.take_of_length_le (by rw [HPN.out]; omega)] at h; rw [h]; exact HFI.out)
      clear hcm HS hlt
      obtain ⟨wz, hwz⟩ : ∃ wz, wz = wo := ⟨_, rfl⟩
      have HZ := Lib.hid (show Below wz.heap.size wz wo from hwz ▸ Below.refl _ _)
      have HCZ := Lib.hid (show CntM wz B (cntF ps) pn from hwz ▸ HCM.out)
      have HBZ := Lib.hid (show Below w2.heap.size w2 wz from hwz ▸ HB.out)
      clear HCM HB hwz
      go_wp2_with fail
      go_loopg [71] n (fun g i wr => ∃ k : Nat, g = n - k ∧ k ≤ n ∧ i = .int .i64 k ∧ Below wz.heap.size wz wr)
      case atStart => exact ⟨0, by omega, by omega, rfl, HZ.out⟩
      case round =>
        clear HZ
        rename World => wo
        obtain ⟨i, hgi, hi, rfl, hb⟩ := hrel
        have HGI := Lib.hid hgi
        have HZ := Lib.hid hb
        clear hgi hb
        by_cases hlt : i < n
        · by_cases hmem : i ∈ ps
          · have hlk0 : (Instr.lookup 46 (.map (some B)) (.int .i64 (i : Int)) false).run Try.prog wo = .ok (.int .i64 1) wo := by
              have h := (HCZ.out.below HZ.out).look (k := i) (by omega)
              rw [cnt_yes hmem] at h
              exact h
            have HME := Lib.hid hmem
            clear hmem
            go_wp2_with fail
            clear hlk0
            go_loopg [80] n (fun g x wr => ∃ k : Nat, g = n - k ∧ k ≤ n ∧ x = .int .i64 k ∧ Below wz.heap.size wz wr)
            case atStart => exact ⟨0, by omega, by omega, rfl, HZ.out⟩
            case round =>
              clear HZ
              rename World => wq
              obtain ⟨j, hgj, hj, rfl, hb⟩ := hrel
              have HGJ := Lib.hid hgj
              have HZ := Lib.hid hb
              clear hgj hb
              by_cases hlj : j < n
              · have HSQ := Lib.hid (HS2.out.below (HBZ.out.trans (HZ.out.mono HBZ.out.size)))
                obtain ⟨eb, eo, y, j1, m1, e1, j2, m2, e2, hla, hy, hye, -, y0, y1, y2, y3, y4, y5, y6⟩ := HSQ.out.ent hlj
                subst hla
                obtain ⟨fb, fo, x, k1, o1, f1, k2, o2, f2, hla, hx, hxe, -, x0, x1, x2, x3, -, -, -⟩ := HSQ.out.ent hlt
                obtain ⟨rfl, rfl⟩ : eb = fb ∧ eo = fo := by simpa using hla
                have HED := Lib.hid (show hangsB x.tx y = true → j ∈ ps from fun h => HSH.out i HME.out j (by rw [edge_at hx hy]; exact h))
                obtain ⟨hh, hhh⟩ : ∃ hh, hh = hangsB x.tx y := ⟨_, rfl⟩
                rw [← hhh] at HED
                have HHG := Lib.hid (fun wx (h : Below wq.heap.size wq wx) => hhh ▸ hangs14_any x.tx y _ _ _ wx (hxe.below h).tx (hye.below h))
                clear hla hx hy hxe hye hhh
                go_upto_region 27 with fail
                have hz := heap_alloc_new wq (.cells #[.int .u32 y.tx.ver, .slice j1 m1 e1, .slice j2 m2 e2, .int .u32 y.tx.lock, .string y.id, .int .i64 y.fee, .int .i64 y.size] 43)
                have hal : Below wq.heap.size wq (wq.alloc (.cells #[.int .u32 y.tx.ver, .slice j1 m1 e1, .slice j2 m2 e2, .int .u32 y.tx.lock, .string y.id, .int .i64 y.fee, .int .i64 y.size] 43)) := (Below.refl _ _).alloc (Nat.le_refl _) _
                obtain ⟨Y, hY⟩ : ∃ q, q = wq.heap.size := ⟨_, rfl⟩
                rw [← hY] at hz ⊢
                generalize wq.alloc (.cells #[.int .u32 y.tx.ver, .slice j1 m1 e1, .slice j2 m2 e2, .int .u32 y.tx.lock, .string y.id, .int .i64 y.fee, .int .i64 y.size] 43) = w5 at *
                have z0 : w5.cell? ⟨Y, 0, none⟩ = some (.int .u32 y.tx.ver) := cell_at hz
                have z1 : w5.cell? ⟨Y, 1, none⟩ = some (.slice j1 m1 e1) := cell_at hz
                have z2 : w5.cell? ⟨Y, 2, none⟩ = some (.slice j2 m2 e2) := cell_at hz
                have z3 : w5.cell? ⟨Y, 3, none⟩ = some (.int .u32 y.tx.lock) := cell_at hz
                have z4 : w5.cell? ⟨Y, 4, none⟩ = some (.string y.id) := cell_at hz
                have z5 : w5.cell? ⟨Y, 5, none⟩ = some (.int .i64 y.fee) := cell_at hz
                have z6 : w5.cell? ⟨Y, 6, none⟩ = some (.int .i64 y.size) := cell_at hz
                replace x0 := below_cells hal _ _ x0
                replace x1 := below_cells hal _ _ x1
                replace x2 := below_cells hal _ _ x2
                replace x3 := below_cells hal _ _ x3
                have HHG5 := Lib.hid (fun wx (h : Below w5.heap.size w5 wx) => HHG.out wx (hal.trans (h.mono hal.size)))
                have HZ5 := Lib.hid (HZ.out.trans (hal.mono HZ.out.size))
                have HC5 := HCZ.out.below HZ5.out
                clear hz hal hY y0 y1 y2 y3 y4 y5 y6 HHG HSQ
                obtain ⟨mj, hmj⟩ : ∃ mj, mj = cntF ps j := ⟨_, rfl⟩
                have HMJ := Lib.hid (show hh = true → mj = 1 from fun h => by rw [hmj]; exact cnt_yes (HED.out h))
                go_cut [102] (fun v wx => v = .bool false ∧ Below w5.heap.size w5 wx)
                case first =>
                  by_cases hji : j < i
                  · have hji' : ((j : Int) < (i : Int)) := by omega
                    cases hh
                    · obtain ⟨C, hC⟩ : ∃ C : World → Prop, C = fun w' => Below w5.heap.size w5 w' := ⟨_, rfl⟩
                      have kx0 := kin_cell hC x0
                      have kx1 := kin_cell hC x1
                      have kx2 := kin_cell hC x2
                      have kx3 := kin_cell hC x3
                      have kz0 := kin_cell hC z0
                      have kz1 := kin_cell hC z1
                      have kz2 := kin_cell hC z2
                      have kz3 := kin_cell hC z3
                      have kz4 := kin_cell hC z4
                      have kz5 := kin_cell hC z5
                      have kz6 := kin_cell hC z6
                      have kL := kin_look hC HC5 (k := j) (by omega)
                      rw [← hmj] at kL
                      clear HC5 hmj
                      have QH := Lib.hid (kin_call hC fun y h => HHG5.out y h)
                      have HC := Lib.hid hC
                      clear hC
                      refine wp_region_kin C (by kernel_rfl) (by kernel_rfl) (by rw [HC.out]; exact ⟨rfl, rfl, rfl, Nat.le_refl _, fun _ _ => rfl⟩) ?_
                      intro hne
                      repeat (first | (go_big_quiet_step ((rename_i y; go_at_call 16; exact Calls.kin (QH.out y) (fun w' h => h)))) | (quiet_step ((rename_i y; go_at_call 16; exact Calls.kin (QH.out y) (fun w' h => h)))))
                      refine wpQuiet_nil ?_
                      intro _ hw'
                      obtain ⟨kx, hw''⟩ := hw'
                      subst hw''
                      obtain ⟨w6, hxc⟩ := kx
                      rw [HC.out] at hxc
                      clear HC hne kx0 kx1 kx2 kx3 kz0 kz1 kz2 kz3 kz4 kz5 kz6
                      clear kL
                      go_wp2_with fail
                      go_meet
                      exact ⟨rfl, hxc⟩
                    · obtain rfl := HMJ.out rfl
                      obtain ⟨C, hC⟩ : ∃ C : World → Prop, C = fun w' => Below w5.heap.size w5 w' := ⟨_, rfl⟩
                      have kx0 := kin_cell hC x0
                      have kx1 := kin_cell hC x1
                      have kx2 := kin_cell hC x2
                      have kx3 := kin_cell hC x3
                      have kz0 := kin_cell hC z0
                      have kz1 := kin_cell hC z1
                      have kz2 := kin_cell hC z2
                      have kz3 := kin_cell hC z3
                      have kz4 := kin_cell hC z4
                      have kz5 := kin_cell hC z5
                      have kz6 := kin_cell hC z6
                      have kL := kin_look hC HC5 (k := j) (by omega)
                      rw [← hmj] at kL
                      clear HC5 hmj
                      have QH := Lib.hid (kin_call hC fun y h => HHG5.out y h)
                      have HC := Lib.hid hC
                      clear hC
                      refine wp_region_kin C (by kernel_rfl) (by kernel_rfl) (by rw [HC.out]; exact ⟨rfl, rfl, rfl, Nat.le_refl _, fun _ _ => rfl⟩) ?_
                      intro hne
                      repeat (first | (go_big_quiet_step ((rename_i y; go_at_call 16; exact Calls.kin (QH.out y) (fun w' h => h)))) | (quiet_step ((rename_i y; go_at_call 16; exact Calls.kin (QH.out y) (fun w' h => h)))))
                      refine wpQuiet_nil ?_
                      intro _ hw'
                      obtain ⟨kx, hw''⟩ := hw'
                      subst hw''
                      obtain ⟨w6, hxc⟩ := kx
                      rw [HC.out] at hxc
                      clear HC hne kx0 kx1 kx2 kx3 kz0 kz1 kz2 kz3 kz4 kz5 kz6
                      clear kL
                      go_wp2_with fail
                      go_meet
                      exact ⟨rfl, hxc⟩
                  · have hji' : ¬ ((j : Int) < (i : Int)) := by omega
                    obtain ⟨C, hC⟩ : ∃ C : World → Prop, C = fun w' => Below w5.heap.size w5 w' := ⟨_, rfl⟩
                    have kx0 := kin_cell hC x0
                    have kx1 := kin_cell hC x1
                    have kx2 := kin_cell hC x2
                    have kx3 := kin_cell hC x3
                    have kz0 := kin_cell hC z0
                    have kz1 := kin_cell hC z1
                    have kz2 := kin_cell hC z2
                    have kz3 := kin_cell hC z3
                    have kz4 := kin_cell hC z4
                    have kz5 := kin_cell hC z5
                    have kz6 := kin_cell hC z6
                    have QH := Lib.hid (kin_call hC fun y h => HHG5.out y h)
                    have HC := Lib.hid hC
                    clear hC
                    refine wp_region_kin C (by kernel_rfl) (by kernel_rfl) (by rw [HC.out]; exact ⟨rfl, rfl, rfl, Nat.le_refl _, fun _ _ => rfl⟩) ?_
                    intro hne
                    repeat (first | (go_big_quiet_step ((rename_i y; go_at_call 16; exact Calls.kin (QH.out y) (fun w' h => h)))) | (quiet_step ((rename_i y; go_at_call 16; exact Calls.kin (QH.out y) (fun w' h => h)))))
                    refine wpQuiet_nil ?_
                    intro _ hw'
                    obtain ⟨kx, hw''⟩ := hw'
                    subst hw''
                    obtain ⟨w6, hxc⟩ := kx
                    rw [HC.out] at hxc
                    clear HC hne kx0 kx1 kx2 kx3 kz0 kz1 kz2 kz3 kz4 kz5 kz6
                    go_wp2_with fail
                    go_meet
                    exact ⟨rfl, hxc⟩
                case rest =>
                  obtain ⟨rfl, hb⟩ := hcut
                  have HZ6 := Lib.hid (HZ5.out.trans (hb.mono HZ5.out.size))
                  clear hb HC5 hmj HHG5 HED HMJ HZ HZ5 x0 x1 x2 x3 z0 z1 z2 z3 z4 z5 z6
                  go_wp2_with fail
                  go_roundg (n - (j + 1))
                  case measure => have := HGJ.out; omega
                  case rel => exact ⟨j + 1, rfl, by omega, by go_num, HZ6.out⟩
              · obtain rfl : n = j := by omega
                go_wp2_with fail
                go_roundg (n - (i + 1))
                case measure => have := HGI.out; omega
                case rel => exact ⟨i + 1, rfl, by omega, by go_num, HZ.out⟩
          · have hlk0 : (Instr.lookup 46 (.map (some B)) (.int .i64 (i : Int)) false).run Try.prog wo = .ok (.int .i64 0) wo := by
              have h := (HCZ.out.below HZ.out).look (k := i) (by omega)
              rw [cnt_no hmem] at h
              exact h
            clear hmem
            go_wp2_with fail
            go_roundg (n - (i + 1))
            case measure => have := HGI.out; omega
            case rel => exact ⟨i + 1, rfl, by omega, by go_num, HZ.out⟩
        · obtain rfl : n = i := by omega
          have HBW := Lib.hid (HBZ.out.trans (HZ.out.mono HBZ.out.size))
          have HT2 := Lib.hid (template_any _ l 0 1000000 wo (HS2.out.below HBW.out) HSZ.out HFW.out (by decide) (by decide))
          go_wp2_with fail
          refine HT2.out.mono ?_
          rintro e w5 ⟨v, rfl, hg, hb⟩
          obtain ⟨ga2, gc2, rfl, -, -⟩ := hg.shape
          have hmp : ((tmplL l 0 1000000).map (txI l)).length = n := by rw [List.length_map, keeps_all HSZ.out, HN.out]
          rw [hmp]
          have HB5 := Lib.hid (HB2.out.trans ((HBW.out.trans (hb.mono HBW.out.size)).mono HB2.out.size))
          have hle := HFI.out
          clear hg hb hmp HT2
          go_wp2_with fail
          refine (wakes21_any w5).mono ?_
          rintro e w6 ⟨rfl, hb⟩
          have HB6 := Lib.hid (HB5.out.trans (hb.mono HB5.out.size))
          clear hb
          go_wp2_with fail
          go_ret
          exact ⟨rfl, HB6.out⟩
end Go.Proofs.Ytfkcldaogfengaa
end
