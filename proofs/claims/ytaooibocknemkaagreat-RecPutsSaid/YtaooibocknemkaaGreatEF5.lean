/-
  kedgeref26.Check: may a record be? Conditions: the record lies in memory of the call's own, with no more than 1,000 outputs.
-/
import Derived.Test.YtaooibocknemkaaGreatEF1
import Derived.Test.YtaooibocknemkaaGreatEu
import Derived.Test.YtaooibocknemkaaGreatEj
import Derived.Test.YtaooibocknemkaaGreatQ4RecPuts
namespace Go.Proofs.YtaooibocknemkaaGreat
open Go.RowKit Go.BigFrame
open Go.Lib (hid)
set_option linter.unusedVariables false
set_option linter.unusedSimpArgs false
theorem bad1_iff (r : PRec) : (((((((((((decide (r.num < 0) || decide (2147483647 < r.num)) || decide (r.br < 0)) || decide (2 < r.br)) || decide (1000000 < (r.height : Int))) || decide (r.dead < 0)) || decide (1000000 < r.dead)) || decide (r.start < 0)) || decide (1000000 < r.start)) || !goodA r.budget) || !goodA r.val) || !goodA r.fee) = false ↔ (0 ≤ r.num ∧ r.num ≤ 2147483647) ∧ (0 ≤ r.br ∧ r.br ≤ 2) ∧ r.height ≤ 1000000 ∧ (0 ≤ r.dead ∧ r.dead ≤ 1000000) ∧ (0 ≤ r.start ∧ r.start ≤ 1000000) ∧ money r.budget ∧ money r.val ∧ money r.fee := by
  unfold money
  simp only [Bool.or_eq_false_iff, Bool.not_eq_false', decide_eq_false_iff_not, goodA_iff]
  omega
theorem check26_val (r : PRec) (hk : kinded r) (ho : ownR r = r) (b1 b2 b3 b4 : Bool)
    (h1 : b1 = (((((((((((decide (r.num < 0) || decide (2147483647 < r.num)) || decide (r.br < 0)) || decide (2 < r.br)) || decide (1000000 < (r.height : Int))) || decide (r.dead < 0)) || decide (1000000 < r.dead)) || decide (r.start < 0)) || decide (1000000 < r.start)) || !goodA r.budget) || !goodA r.val) || !goodA r.fee))
    (h2 : b2 = ((decide (1 < r.kind) && decide (r.kind < 5)) && !decide (r.id.size = 32)))
    (h3 : b3 = (decide (r.kind = 4) && (decide (r.index < 0) || decide (32 < r.index))))
    (h4 : b4 = ((!decide (checkOf r.tx = 0) || decide (r.index < 0)) || decide ((r.tx.outs.length : Int) ≤ r.index))) :
    checkR r = if b1 = true then 3 else if b2 = true then 3 else if b3 = true then 3 else if r.kind = 1 ∧ b4 = true then 3 else 0 := by
  cases b1
  · obtain ⟨g1, g2, g3, g4, g5, g6, g7, g8⟩ := (bad1_iff r).1 h1.symm
    rw [if_neg (by decide)]
    cases b2
    · rw [if_neg (by decide)]
      have i2 : 1 < r.kind → r.kind < 5 → r.id.size = 32 := fun e f => by
        rw [decide_eq_true e, decide_eq_true f] at h2
        simpa using h2
      cases b3
      · rw [if_neg (by decide)]
        have i3 : r.kind = 4 → 0 ≤ r.index ∧ r.index ≤ 32 := fun e => by
          rw [decide_eq_true e] at h3
          simp only [Bool.true_and, Bool.false_eq, Bool.or_eq_false_iff, decide_eq_false_iff_not] at h3
          omega
        by_cases k1 : r.kind = 1
        · cases b4
          · rw [if_neg (by rintro ⟨-, e⟩; cases e)]
            simp only [Bool.false_eq, Bool.or_eq_false_iff, Bool.not_eq_false', decide_eq_true_eq, decide_eq_false_iff_not] at h4
            exact checkR_ok hk ho ⟨g1, g2, g3, g4, g5, g6, g7, g8, i2, i3, fun _ => ⟨h4.1.1, by omega, by omega⟩⟩
          · rw [if_pos ⟨k1, rfl⟩]
            refine checkR_range hk ho fun R => ?_
            obtain ⟨c1, c2, c3⟩ := R.com k1
            rw [decide_eq_true c1, decide_eq_false (show ¬ r.index < 0 by omega), decide_eq_false (show ¬ (r.tx.outs.length : Int) ≤ r.index by omega)] at h4
            cases h4
        · rw [if_neg (fun e => k1 e.1)]
          exact checkR_ok hk ho ⟨g1, g2, g3, g4, g5, g6, g7, g8, i2, i3, fun e => absurd e k1⟩
      · rw [if_pos rfl]
        refine checkR_range hk ho fun R => ?_
        simp only [Bool.true_eq, Bool.and_eq_true, Bool.or_eq_true, decide_eq_true_eq] at h3
        have := R.bid h3.1
        omega
    · rw [if_pos rfl]
      refine checkR_range hk ho fun R => ?_
      simp only [Bool.true_eq, Bool.and_eq_true, Bool.not_eq_true', decide_eq_true_eq, decide_eq_false_iff_not] at h2
      exact h2.2 (R.id h2.1.1 h2.1.2)
  · rw [if_pos rfl]
    refine checkR_range hk ho fun R => ?_
    have := (bad1_iff r).2 ⟨R.num, R.br, R.height, R.dead, R.start, R.budget, R.val, R.fee⟩
    rw [← h1] at this
    cases this
set_option maxRecDepth 100000 in
set_option maxHeartbeats 16000000 in
theorem rcheck26_any (B0 : Nat) (v1 : Value) (r : PRec) (w : World) (h1 : RecOwn B0 w v1 r) (hlen : r.tx.outs.length ≤ 1000) : Calls Tryz.prog 11 #[v1] w (CIs (checkR r) w) := by
  obtain ⟨q, hq⟩ : ∃ q, q = ownR r := ⟨_, rfl⟩
  obtain ⟨A0, hA⟩ : ∃ c, c = checkR r := ⟨_, rfl⟩
  have HA := hid hA
  have HQ := hid hq
  rw [← hA]
  clear hA hq
  obtain ⟨va, vb, rfl, hto, hk1⟩ := h1
  have HI := hid hto.at_.1
  have HO := hid hto.at_.2
  have HTO := hid hto
  have HK := hid hk1
  have HLN := hid hlen
  obtain ⟨ia, ic, rfl, -, -⟩ := HI.out.shape
  obtain ⟨oa, oc, rfl, -, -⟩ := HO.out.shape
  have HOW := hid (fun (y : World) (h : Below w.heap.size w y) => rown_any _ _ r y (HI.out.below h) (HO.out.below h) hk1)
  have HTX := hid (fun (y : World) (h : Below w.heap.size w y) => rcheck_any _ r.tx y (rec_tx (HI.out.below h) (HO.out.below h) HK.out) HLN.out)
  obtain ⟨n1, hn1⟩ : ∃ n, n = r.tx.ins.length := ⟨_, rfl⟩
  obtain ⟨n2, hn2⟩ : ∃ n, n = r.tx.outs.length := ⟨_, rfl⟩
  have HN2 := hid hn2
  have HRA := hid (show RecAt w (.agg #[.int .i64 r.kind, .int .i64 r.num, .int .u32 r.tx.ver, .slice ia n1 ic, .slice oa n2 oc, .int .u32 r.tx.lock, .int .i64 r.index, .string r.id, .int .u32 r.idx, .int .i64 r.val, .int .i64 r.br, .int .u16 r.tag, .int .u16 r.delay, .int .u32 r.height, .int .i64 r.dead, .int .i64 r.budget, .int .i64 r.start, .int .i64 r.fee]) r from ⟨_, _, by rw [hn1, hn2], HI.out, HO.out, hk1⟩)
  rw [← hn1, ← hn2] at HOW HTX HTO
  rw [← hn1, ← hn2]
  clear hn1 hn2 hto hk1 hlen HI HO HLN
  obtain ⟨tc, htc⟩ : ∃ c, c = checkOf r.tx := ⟨_, rfl⟩
  have HTC := hid htc
  rw [← htc] at HTX
  clear htc
  obtain ⟨g1, hg1⟩ : ∃ b, b = goodA r.budget := ⟨_, rfl⟩
  obtain ⟨g2, hg2⟩ : ∃ b, b = goodA r.val := ⟨_, rfl⟩
  obtain ⟨g3, hg3⟩ : ∃ b, b = goodA r.fee := ⟨_, rfl⟩
  have HG1 := hid (fun y : World => hg1 ▸ rgood_any r.budget y)
  have HG2 := hid (fun y : World => hg2 ▸ rgood_any r.val y)
  have HG3 := hid (fun y : World => hg3 ▸ rgood_any r.fee y)
  have HGG := hid (And.intro hg1 (And.intro hg2 hg3))
  clear hg1 hg2 hg3
  go_enter Tryz.func11, Tryz.ntmps11
  go_upto_region 1 with fail
  have hz := heap_alloc_new w (.cells #[.int .i64 r.kind, .int .i64 r.num, .int .u32 r.tx.ver, .slice ia n1 ic, .slice oa n2 oc, .int .u32 r.tx.lock, .int .i64 r.index, .string r.id, .int .u32 r.idx, .int .i64 r.val, .int .i64 r.br, .int .u16 r.tag, .int .u16 r.delay, .int .u32 r.height, .int .i64 r.dead, .int .i64 r.budget, .int .i64 r.start, .int .i64 r.fee] 35)
  have hal : Below w.heap.size w (w.alloc (.cells #[.int .i64 r.kind, .int .i64 r.num, .int .u32 r.tx.ver, .slice ia n1 ic, .slice oa n2 oc, .int .u32 r.tx.lock, .int .i64 r.index, .string r.id, .int .u32 r.idx, .int .i64 r.val, .int .i64 r.br, .int .u16 r.tag, .int .u16 r.delay, .int .u32 r.height, .int .i64 r.dead, .int .i64 r.budget, .int .i64 r.start, .int .i64 r.fee] 35)) := (Below.refl _ _).alloc (Nat.le_refl _) _
  obtain ⟨X, hX⟩ : ∃ q, q = w.heap.size := ⟨_, rfl⟩
  rw [← hX] at hz ⊢
  generalize w.alloc (.cells #[.int .i64 r.kind, .int .i64 r.num, .int .u32 r.tx.ver, .slice ia n1 ic, .slice oa n2 oc, .int .u32 r.tx.lock, .int .i64 r.index, .string r.id, .int .u32 r.idx, .int .i64 r.val, .int .i64 r.br, .int .u16 r.tag, .int .u16 r.delay, .int .u32 r.height, .int .i64 r.dead, .int .i64 r.budget, .int .i64 r.start, .int .i64 r.fee] 35) = w0 at *
  have HB := hid hal
  have HZ0 := hid hz
  have x0 : w0.cell? ⟨X, 0, none⟩ = some (.int .i64 r.kind) := cell_at hz
  clear hz hal hX
  by_cases hkA : r.kind < 1
  · go_wp2_with fail
    go_ret
    refine ⟨?_, HB.out⟩
    rw [HA.out, checkR_bad (fun e => by have := e.1; omega)]
    rfl
  by_cases hkB : 5 < r.kind
  · go_wp2_with fail
    go_ret
    refine ⟨?_, HB.out⟩
    rw [HA.out, checkR_bad (fun e => by have := e.2; omega)]
    rfl
  have HKD := hid (show kinded r from ⟨by omega, by omega⟩)
  go_wp2_with (refine wpList_load_row rfl 35 (.tmp 1) rfl (X) rfl 35 _ (0, 0) _ HZ0.out Tryz.underlying35 rfl (by kernel_rfl) ?_)
  refine (HOW.out w0 HB.out).mono ?_
  rintro e w1 ⟨v, rfl, hv, hb⟩
  have hqo := hv B0 w1 ((HTO.out).kept' (fun b h1 h2 => (HB.out.trans (hb.mono HB.out.size)).block b h2))
  rw [← HQ.out] at hqo
  have HB := hid (HB.out.trans (hb.mono HB.out.size))
  have HZ0 := hid ((hb.block X (Array.getElem?_eq_some_iff.1 HZ0.out).1).trans HZ0.out)
  clear hb hv HOW HTO x0
  have HVV := hid hqo.at_
  have hqa := hqo.at_
  clear hqo
  obtain ⟨va, vb, rfl, hi2, ho2, hk2⟩ := hqa
  obtain ⟨ja, jc, rfl, -, -⟩ := hi2.shape
  obtain ⟨pa, pc, rfl, -, -⟩ := ho2.shape
  obtain ⟨m1, hm1⟩ : ∃ n, n = q.tx.ins.length := ⟨_, rfl⟩
  obtain ⟨m2, hm2⟩ : ∃ n, n = q.tx.outs.length := ⟨_, rfl⟩
  rw [← hm1, ← hm2] at HVV ⊢
  clear hi2 ho2 hk2 hm1 hm2
  go_upto_region 4 with fail
  have hz := heap_alloc_new w1 (.cells #[.int .i64 q.kind, .int .i64 q.num, .int .u32 q.tx.ver, .slice ja m1 jc, .slice pa m2 pc, .int .u32 q.tx.lock, .int .i64 q.index, .string q.id, .int .u32 q.idx, .int .i64 q.val, .int .i64 q.br, .int .u16 q.tag, .int .u16 q.delay, .int .u32 q.height, .int .i64 q.dead, .int .i64 q.budget, .int .i64 q.start, .int .i64 q.fee] 35)
  have hal : Below w1.heap.size w1 (w1.alloc (.cells #[.int .i64 q.kind, .int .i64 q.num, .int .u32 q.tx.ver, .slice ja m1 jc, .slice pa m2 pc, .int .u32 q.tx.lock, .int .i64 q.index, .string q.id, .int .u32 q.idx, .int .i64 q.val, .int .i64 q.br, .int .u16 q.tag, .int .u16 q.delay, .int .u32 q.height, .int .i64 q.dead, .int .i64 q.budget, .int .i64 q.start, .int .i64 q.fee] 35)) := (Below.refl _ _).alloc (Nat.le_refl _) _
  obtain ⟨Y, hY⟩ : ∃ q, q = w1.heap.size := ⟨_, rfl⟩
  rw [← hY] at hz ⊢
  generalize w1.alloc (.cells #[.int .i64 q.kind, .int .i64 q.num, .int .u32 q.tx.ver, .slice ja m1 jc, .slice pa m2 pc, .int .u32 q.tx.lock, .int .i64 q.index, .string q.id, .int .u32 q.idx, .int .i64 q.val, .int .i64 q.br, .int .u16 q.tag, .int .u16 q.delay, .int .u32 q.height, .int .i64 q.dead, .int .i64 q.budget, .int .i64 q.start, .int .i64 q.fee] 35) = w2 at *
  have HZ0 := hid ((hal.block X (Array.getElem?_eq_some_iff.1 HZ0.out).1).trans HZ0.out)
  have HVV := hid (HVV.out.below hal)
  have HB := hid (HB.out.trans (hal.mono HB.out.size))
  have HZ1 := hid hz
  clear hz hal hY
  obtain ⟨sb, hsb⟩ : ∃ b, b = sameR q r := ⟨_, rfl⟩
  have HSB := hid hsb
  have HE := hid (rsame26_any _ _ q r w2 HVV.out (HRA.out.below HB.out))
  rw [← hsb] at HE
  clear hsb
  go_wp2_with (first
    | (refine wpList_load_row rfl 35 (.tmp 1) rfl (X) rfl 35 _ (0, 0) _ HZ0.out Tryz.underlying35 rfl (by kernel_rfl) ?_)
    | (refine wpList_load_row rfl 35 (.tmp 3) rfl (Y) rfl 35 _ (0, 0) _ HZ1.out Tryz.underlying35 rfl (by kernel_rfl) ?_))
  refine HE.out.mono ?_
  rintro e w3 ⟨rfl, hb⟩
  have HZ0 := hid ((hb.block X (Array.getElem?_eq_some_iff.1 HZ0.out).1).trans HZ0.out)
  have HB := hid (HB.out.trans (hb.mono HB.out.size))
  clear hb HE HZ1 HVV
  cases sb
  · go_wp2_with fail
    go_ret
    refine ⟨?_, HB.out⟩
    have hs := HSB.out
    rw [HQ.out] at hs
    rw [HA.out, checkR_form HKD.out (fun e => by rw [sameR_yes e] at hs; cases hs)]
    rfl
  have HOR := hid (show ownR r = r from by rw [← HQ.out]; exact sameR_iff.1 HSB.out.symm)
  have x0 : w3.cell? ⟨X, 0, none⟩ = some (.int .i64 r.kind) := cell_at HZ0.out
  have x1 : w3.cell? ⟨X, 1, none⟩ = some (.int .i64 r.num) := cell_at HZ0.out
  have x2 : w3.cell? ⟨X, 2, none⟩ = some (.int .u32 r.tx.ver) := cell_at HZ0.out
  have x3 : w3.cell? ⟨X, 3, none⟩ = some (.slice ia n1 ic) := cell_at HZ0.out
  have x4 : w3.cell? ⟨X, 4, none⟩ = some (.slice oa n2 oc) := cell_at HZ0.out
  have x5 : w3.cell? ⟨X, 5, none⟩ = some (.int .u32 r.tx.lock) := cell_at HZ0.out
  have x6 : w3.cell? ⟨X, 6, none⟩ = some (.int .i64 r.index) := cell_at HZ0.out
  have x7 : w3.cell? ⟨X, 7, none⟩ = some (.string r.id) := cell_at HZ0.out
  have x9 : w3.cell? ⟨X, 9, none⟩ = some (.int .i64 r.val) := cell_at HZ0.out
  have x10 : w3.cell? ⟨X, 10, none⟩ = some (.int .i64 r.br) := cell_at HZ0.out
  have x13 : w3.cell? ⟨X, 13, none⟩ = some (.int .u32 r.height) := cell_at HZ0.out
  have x14 : w3.cell? ⟨X, 14, none⟩ = some (.int .i64 r.dead) := cell_at HZ0.out
  have x15 : w3.cell? ⟨X, 15, none⟩ = some (.int .i64 r.budget) := cell_at HZ0.out
  have x16 : w3.cell? ⟨X, 16, none⟩ = some (.int .i64 r.start) := cell_at HZ0.out
  have x17 : w3.cell? ⟨X, 17, none⟩ = some (.int .i64 r.fee) := cell_at HZ0.out
  go_wp2_with fail
  refine (HG1.out w3).mono ?_
  rintro e w4 ⟨rfl, rfl⟩
  go_wp2_with fail
  refine (HG2.out w3).mono ?_
  rintro e w4 ⟨rfl, rfl⟩
  go_wp2_with fail
  refine (HG3.out w3).mono ?_
  rintro e w4 ⟨rfl, rfl⟩
  clear HG1 HG2 HG3
  obtain ⟨b1, hb1⟩ : ∃ b, b = (((((((((((decide (r.num < 0) || decide (2147483647 < r.num)) || decide (r.br < 0)) || decide (2 < r.br)) || decide (1000000 < (r.height : Int))) || decide (r.dead < 0)) || decide (1000000 < r.dead)) || decide (r.start < 0)) || decide (1000000 < r.start)) || !g1) || !g2) || !g3) := ⟨_, rfl⟩
  obtain ⟨b2, hb2⟩ : ∃ b, b = ((decide (1 < r.kind) && decide (r.kind < 5)) && !decide (r.id.size = 32)) := ⟨_, rfl⟩
  obtain ⟨b3, hb3⟩ : ∃ b, b = (decide (r.kind = 4) && (decide (r.index < 0) || decide (32 < r.index))) := ⟨_, rfl⟩
  obtain ⟨b4, hb4⟩ : ∃ b, b = ((!decide (tc = 0) || decide (r.index < 0)) || decide ((n2 : Int) ≤ r.index)) := ⟨_, rfl⟩
  have HV := hid (check26_val r HKD.out HOR.out b1 b2 b3 b4 (by rw [hb1, HGG.out.1, HGG.out.2.1, HGG.out.2.2]) hb2 hb3 (by rw [hb4, HTC.out, HN2.out]))
  rw [← HA.out] at HV
  have HB1 := hid hb1
  have HB2 := hid hb2
  have HB3 := hid hb3
  have HB4 := hid hb4
  clear hb1 hb2 hb3 hb4
  go_upto_region 10 with fail
  go_cut [94] (fun s wx => s = .bool b1 ∧ w3 = wx)
  case first =>
    as_aux_lemma =>
    clear x0 x2 x3 x4 x5 x6 x7
    by_cases d0 : r.num < 0
    · as_aux_lemma =>
      have e0 := decide_eq_true d0
      go_wp2_with (first | go_big_skip | fail)
      go_meet
      refine ⟨?_, rfl⟩
      rw [HB1.out]
      simp only [e0, Bool.false_or, Bool.true_or, Bool.or_true, Bool.or_false, Bool.not_true, Bool.not_false]
    have e0 := decide_eq_false d0
    by_cases d1 : 2147483647 < r.num
    · as_aux_lemma =>
      have e1 := decide_eq_true d1
      go_wp2_with (first | go_big_skip | fail)
      go_meet
      refine ⟨?_, rfl⟩
      rw [HB1.out]
      simp only [e0, e1, Bool.false_or, Bool.true_or, Bool.or_true, Bool.or_false, Bool.not_true, Bool.not_false]
    have e1 := decide_eq_false d1
    by_cases d2 : r.br < 0
    · as_aux_lemma =>
      have e2 := decide_eq_true d2
      go_wp2_with (first | go_big_skip | fail)
      go_meet
      refine ⟨?_, rfl⟩
      rw [HB1.out]
      simp only [e0, e1, e2, Bool.false_or, Bool.true_or, Bool.or_true, Bool.or_false, Bool.not_true, Bool.not_false]
    have e2 := decide_eq_false d2
    by_cases d3 : 2 < r.br
    · as_aux_lemma =>
      have e3 := decide_eq_true d3
      go_wp2_with (first | go_big_skip | fail)
      go_meet
      refine ⟨?_, rfl⟩
      rw [HB1.out]
      simp only [e0, e1, e2, e3, Bool.false_or, Bool.true_or, Bool.or_true, Bool.or_false, Bool.not_true, Bool.not_false]
    have e3 := decide_eq_false d3
    by_cases d4 : 1000000 < (r.height : Int)
    · as_aux_lemma =>
      have e4 := decide_eq_true d4
      go_wp2_with (first | go_big_skip | fail)
      go_meet
      refine ⟨?_, rfl⟩
      rw [HB1.out]
      simp only [e0, e1, e2, e3, e4, Bool.false_or, Bool.true_or, Bool.or_true, Bool.or_false, Bool.not_true, Bool.not_false]
    have e4 := decide_eq_false d4
    by_cases d5 : r.dead < 0
    · as_aux_lemma =>
      have e5 := decide_eq_true d5
      go_wp2_with (first | go_big_skip | fail)
      go_meet
      refine ⟨?_, rfl⟩
      rw [HB1.out]
      simp only [e0, e1, e2, e3, e4, e5, Bool.false_or, Bool.true_or, Bool.or_true, Bool.or_false, Bool.not_true, Bool.not_false]
    have e5 := decide_eq_false d5
    by_cases d6 : 1000000 < r.dead
    · as_aux_lemma =>
      have e6 := decide_eq_true d6
      go_wp2_with (first | go_big_skip | fail)
      go_meet
      refine ⟨?_, rfl⟩
      rw [HB1.out]
      simp only [e0, e1, e2, e3, e4, e5, e6, Bool.false_or, Bool.true_or, Bool.or_true, Bool.or_false, Bool.not_true, Bool.not_false]
    have e6 := decide_eq_false d6
    by_cases d7 : r.start < 0
    · as_aux_lemma =>
      have e7 := decide_eq_true d7
      go_wp2_with (first | go_big_skip | fail)
      go_meet
      refine ⟨?_, rfl⟩
      rw [HB1.out]
      simp only [e0, e1, e2, e3, e4, e5, e6, e7, Bool.false_or, Bool.true_or, Bool.or_true, Bool.or_false, Bool.not_true, Bool.not_false]
    have e7 := decide_eq_false d7
    by_cases d8 : 1000000 < r.start
    · as_aux_lemma =>
      have e8 := decide_eq_true d8
      go_wp2_with (first | go_big_skip | fail)
      go_meet
      refine ⟨?_, rfl⟩
      rw [HB1.out]
      simp only [e0, e1, e2, e3, e4, e5, e6, e7, e8, Bool.false_or, Bool.true_or, Bool.or_true, Bool.or_false, Bool.not_true, Bool.not_false]
    have e8 := decide_eq_false d8
    cases g1 with
    | false =>
      as_aux_lemma =>
      go_wp2_with (first | go_big_skip | fail)
      go_meet
      refine ⟨?_, rfl⟩
      rw [HB1.out]
      simp only [e0, e1, e2, e3, e4, e5, e6, e7, e8, Bool.false_or, Bool.true_or, Bool.or_true, Bool.or_false, Bool.not_true, Bool.not_false]
    | true =>
      cases g2 with
      | false =>
        as_aux_lemma =>
        go_wp2_with (first | go_big_skip | fail)
        go_meet
        refine ⟨?_, rfl⟩
        rw [HB1.out]
        simp only [e0, e1, e2, e3, e4, e5, e6, e7, e8, Bool.false_or, Bool.true_or, Bool.or_true, Bool.or_false, Bool.not_true, Bool.not_false]
      | true =>
        cases g3 with
        | false =>
          as_aux_lemma =>
          go_wp2_with (first | go_big_skip | fail)
          go_meet
          refine ⟨?_, rfl⟩
          rw [HB1.out]
          simp only [e0, e1, e2, e3, e4, e5, e6, e7, e8, Bool.false_or, Bool.true_or, Bool.or_true, Bool.or_false, Bool.not_true, Bool.not_false]
        | true =>
          go_wp2_with (first | go_big_skip | fail)
          go_meet
          refine ⟨?_, rfl⟩
          rw [HB1.out]
          simp only [e0, e1, e2, e3, e4, e5, e6, e7, e8, Bool.false_or, Bool.true_or, Bool.or_true, Bool.or_false, Bool.not_true, Bool.not_false]
  case rest =>
    as_aux_lemma =>
    obtain ⟨rfl, rfl⟩ := hcut
    cases b1 with
    | true =>
      have hA0 := hid (show A0 = 3 from by rw [HV.out]; rfl)
      go_wp2_with fail
      go_ret
      refine ⟨?_, HB.out⟩
      rw [hA0.out]
      rfl
    | false =>
    go_upto_region 12 with fail
    go_cut [110] (fun s wx => s = .bool b2 ∧ w3 = wx)
    case first =>
      by_cases d0 : 1 < r.kind
      · have e0 := decide_eq_true d0
        have D0 := hid d0
        clear d0
        by_cases d1 : r.kind < 5
        · have e1 := decide_eq_true d1
          have D1 := hid d1
          clear d1
          by_cases d2 : r.id.size = 32
          · have f2 : ((r.id.size : Int) == 32) = true := by rw [beq_iff_eq]; omega
            have f3 : ((r.id.size : Int) != 32) = false := by rw [bne, f2]; rfl
            have D2 := hid d2
            clear d2
            go_wp2_with fail
            go_meet
            refine ⟨?_, rfl⟩
            rw [HB2.out, decide_eq_true D2.out, Bool.not_true, Bool.and_false]
            try rfl
          · have f2 : ((r.id.size : Int) == 32) = false := by rw [beq_eq_false_iff_ne]; omega
            have f3 : ((r.id.size : Int) != 32) = true := by rw [bne, f2]; rfl
            have D2 := hid d2
            clear d2
            go_wp2_with fail
            go_meet
            refine ⟨?_, rfl⟩
            rw [HB2.out, decide_eq_true D0.out, decide_eq_true D1.out, decide_eq_false (show ¬ r.id.size = 32 from by have := D2.out; omega)]
            try rfl
        · have e1 := decide_eq_false d1
          have D1 := hid d1
          clear d1
          go_wp2_with fail
          go_meet
          refine ⟨?_, rfl⟩
          rw [HB2.out, decide_eq_false (show ¬ r.kind < 5 from by have := D1.out; omega), Bool.and_false, Bool.false_and]
          try rfl
      · have e0 := decide_eq_false d0
        have D0 := hid d0
        clear d0
        go_wp2_with fail
        go_meet
        refine ⟨?_, rfl⟩
        rw [HB2.out, decide_eq_false (show ¬ 1 < r.kind from by have := D0.out; omega), Bool.false_and, Bool.false_and]
        try rfl
    case rest =>
      obtain ⟨rfl, rfl⟩ := hcut
      cases b2 with
      | true =>
        have hA0 := hid (show A0 = 3 from by rw [HV.out]; rfl)
        go_wp2_with fail
        go_ret
        refine ⟨?_, HB.out⟩
        rw [hA0.out]
        rfl
      | false =>
      go_upto_region 14 with fail
      go_cut [123] (fun s wx => s = .bool b3 ∧ w3 = wx)
      case first =>
        by_cases d0 : r.kind = 4
        · have e0 : (r.kind == 4) = true := by rw [beq_iff_eq]; exact d0
          have D0 := hid d0
          clear d0
          by_cases d1 : r.index < 0
          · have e1 := decide_eq_true d1
            have D1 := hid d1
            clear d1
            go_wp2_with fail
            go_meet
            refine ⟨?_, rfl⟩
            rw [HB3.out, decide_eq_true D0.out, decide_eq_true D1.out]
            try rfl
          · have e1 := decide_eq_false d1
            have D1 := hid d1
            clear d1
            by_cases d2 : 32 < r.index
            · have e2 := decide_eq_true d2
              have D2 := hid d2
              clear d2
              go_wp2_with fail
              go_meet
              refine ⟨?_, rfl⟩
              rw [HB3.out, decide_eq_true D0.out, decide_eq_true D2.out, Bool.or_true]
              try rfl
            · have e2 := decide_eq_false d2
              have D2 := hid d2
              clear d2
              go_wp2_with fail
              go_meet
              refine ⟨?_, rfl⟩
              rw [HB3.out, decide_eq_false (show ¬ r.index < 0 from by have := D1.out; omega), decide_eq_false (show ¬ 32 < r.index from by have := D2.out; omega), Bool.or_false, Bool.and_false]
              try rfl
        · have e0 : (r.kind == 4) = false := by rw [beq_eq_false_iff_ne]; exact d0
          have D0 := hid d0
          clear d0
          go_wp2_with fail
          go_meet
          refine ⟨?_, rfl⟩
          rw [HB3.out, decide_eq_false (show ¬ r.kind = 4 from by have := D0.out; omega), Bool.false_and]
          try rfl
      case rest =>
        obtain ⟨rfl, rfl⟩ := hcut
        cases b3 with
        | true =>
          have hA0 := hid (show A0 = 3 from by rw [HV.out]; rfl)
          go_wp2_with fail
          go_ret
          refine ⟨?_, HB.out⟩
          rw [hA0.out]
          rfl
        | false =>
        by_cases k1 : r.kind = 1
        rotate_left
        · have e0 : (r.kind == 1) = false := by rw [beq_eq_false_iff_ne]; exact k1
          have hA0 := hid (show A0 = 0 from by
            have e := HV.out
            rw [if_neg (by decide), if_neg (by decide), if_neg (by decide), if_neg (fun e => k1 e.1)] at e
            exact e)
          clear k1
          go_wp2_with fail
          go_ret
          refine ⟨?_, HB.out⟩
          rw [hA0.out]
          rfl
        have e0 : (r.kind == 1) = true := by rw [beq_iff_eq]; exact k1
        have K1 := hid k1
        clear k1
        go_wp2_with fail
        refine (HTX.out w3 HB.out).mono ?_
        rintro e w4 ⟨rfl, hb⟩
        have HB := hid (HB.out.trans (hb.mono HB.out.size))
        replace x4 := below_cells hb _ _ x4
        replace x6 := below_cells hb _ _ x6
        clear hb x0 x1 x2 x3 x5 x7 x9 x10 x13 x14 x15 x16 x17
        go_upto_region 18 with fail
        go_cut [145] (fun s wx => s = .bool b4 ∧ w4 = wx)
        case first =>
          by_cases d0 : tc = 0
          · have e0 : (tc == 0) = true := by rw [beq_iff_eq]; exact d0
            have f0 : (tc != 0) = false := by rw [bne, e0]; rfl
            clear e0
            have D0 := hid d0
            clear d0
            by_cases d1 : r.index < 0
            · have e1 := decide_eq_true d1
              have D1 := hid d1
              clear d1
              go_wp2_with fail
              go_meet
              refine ⟨?_, rfl⟩
              rw [HB4.out, decide_eq_true D1.out, Bool.or_true, Bool.true_or]
              try rfl
            · have e1 := decide_eq_false d1
              have D1 := hid d1
              clear d1
              by_cases d2 : (n2 : Int) ≤ r.index
              · have e2 := decide_eq_true d2
                have D2 := hid d2
                clear d2
                go_wp2_with fail
                go_meet
                refine ⟨?_, rfl⟩
                rw [HB4.out, decide_eq_true D2.out, Bool.or_true]
                try rfl
              · have e2 := decide_eq_false d2
                have D2 := hid d2
                clear d2
                go_wp2_with fail
                go_meet
                refine ⟨?_, rfl⟩
                rw [HB4.out, decide_eq_true D0.out, decide_eq_false (show ¬ r.index < 0 from by have := D1.out; omega), decide_eq_false (show ¬ (n2 : Int) ≤ r.index from by have := D2.out; omega)]
                try rfl
          · have e0 : (tc == 0) = false := by rw [beq_eq_false_iff_ne]; exact d0
            have f0 : (tc != 0) = true := by rw [bne, e0]; rfl
            have D0 := hid d0
            clear d0
            go_wp2_with fail
            go_meet
            refine ⟨?_, rfl⟩
            rw [HB4.out, decide_eq_false (show ¬ tc = 0 from by have := D0.out; omega), Bool.not_false, Bool.true_or, Bool.true_or]
            try rfl
        case rest =>
          obtain ⟨rfl, rfl⟩ := hcut
          cases b4 with
          | true =>
            have hA0 := hid (show A0 = 3 from by
              have e := HV.out
              rw [if_neg (by decide), if_neg (by decide), if_neg (by decide), if_pos ⟨K1.out, rfl⟩] at e
              exact e)
            go_wp2_with fail
            go_ret
            refine ⟨?_, HB.out⟩
            rw [hA0.out]
            rfl
          | false =>
            have hA0 := hid (show A0 = 0 from by
              have e := HV.out
              rw [if_neg (by decide), if_neg (by decide), if_neg (by decide), if_neg (fun e => by have := e.2; cases this)] at e
              exact e)
            go_wp2_with fail
            go_ret
            refine ⟨?_, HB.out⟩
            rw [hA0.out]
            rfl
end Go.Proofs.YtaooibocknemkaaGreat
