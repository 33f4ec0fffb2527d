/-
  kedgeref26.Same of any two records. Conditions: the records lie in memory.
-/
import Derived.Test.YtaooibocknemkaaGreatQ12RecPuts
import Derived.BigGuardPart
namespace Go.Proofs.YtaooibocknemkaaGreat
open Go.RowKit Go.BigFrame
open Go.Lib (hid)
set_option linter.unusedVariables false
set_option linter.unusedSimpArgs false
set_option maxRecDepth 100000 in
set_option maxHeartbeats 16000000 in
theorem rsame26_any (v1 v2 : Value) (r q : PRec) (w : World) (h1 : RecAt w v1 r) (h2 : RecAt w v2 q) : Calls Tryz.prog 15 #[v1, v2] w (BIs (sameR r q) w) := by
  obtain ⟨va, vb, rfl, hi1, ho1, hk1⟩ := h1
  obtain ⟨vc, vd, rfl, hi2, ho2, hk2⟩ := h2
  have HT1 := hid (rec_tx hi1 ho1 hk1)
  have HT2 := hid (rec_tx hi2 ho2 hk2)
  obtain ⟨ia, ic, rfl, -, -⟩ := hi1.shape
  obtain ⟨oa, oc, rfl, -, -⟩ := ho1.shape
  obtain ⟨ja, jc, rfl, -, -⟩ := hi2.shape
  obtain ⟨qa, qc, rfl, -, -⟩ := ho2.shape
  obtain ⟨n1, hn1⟩ : ∃ n, n = r.tx.ins.length := ⟨_, rfl⟩
  obtain ⟨n2, hn2⟩ : ∃ n, n = r.tx.outs.length := ⟨_, rfl⟩
  obtain ⟨n3, hn3⟩ : ∃ n, n = q.tx.ins.length := ⟨_, rfl⟩
  obtain ⟨n4, hn4⟩ : ∃ n, n = q.tx.outs.length := ⟨_, rfl⟩
  rw [← hn1, ← hn2] at HT1
  rw [← hn3, ← hn4] at HT2
  rw [← hn1, ← hn2, ← hn3, ← hn4]
  clear hn1 hn2 hn3 hn4 hi1 ho1 hk1 hi2 ho2 hk2
  obtain ⟨cl, hcl⟩ : ∃ b, b = sameC r.cl q.cl := ⟨_, rfl⟩
  obtain ⟨tb, htb⟩ : ∃ b, b = sameTx r.tx q.tx := ⟨_, rfl⟩
  have HSB := hid (show sameR r q = ((((((((r.kind == q.kind) && (r.num == q.num)) && tb) && (r.index == q.index)) && cl) && (r.budget == q.budget)) && (r.start == q.start)) && (r.fee == q.fee)) from by rw [sameR_bits, ← hcl, ← htb])
  have HCL := hid (show cl = (((r.id.toList == q.id.toList) && ((r.idx : Int) == (q.idx : Int))) && ((r.val == q.val) && ((r.br == q.br) && (((((r.tag : Int) == (q.tag : Int)) && ((r.delay : Int) == (q.delay : Int))) && ((r.height : Int) == (q.height : Int))) && (r.dead == q.dead))))) from by rw [hcl, sameC_bits]; rfl)
  have HTB := hid htb
  clear hcl htb
  go_enter Tryz.func15, Tryz.ntmps15
  go_upto_region 1 with fail
  obtain ⟨X, hX⟩ : ∃ q, q = w.heap.size := ⟨_, rfl⟩
  have hnews := new2 w X hX (.cells #[.int .i64 r.kind, .int .i64 r.num, .int .u32 r.tx.ver, .slice ia n1 ic, .slice oa n2 oc, .int .u32 r.tx.lock, .int .i64 r.index, .string r.id, .int .u32 r.idx, .int .i64 r.val, .int .i64 r.br, .int .u16 r.tag, .int .u16 r.delay, .int .u32 r.height, .int .i64 r.dead, .int .i64 r.budget, .int .i64 r.start, .int .i64 r.fee] 35) (.cells #[.int .i64 q.kind, .int .i64 q.num, .int .u32 q.tx.ver, .slice ja n3 jc, .slice qa n4 qc, .int .u32 q.tx.lock, .int .i64 q.index, .string q.id, .int .u32 q.idx, .int .i64 q.val, .int .i64 q.br, .int .u16 q.tag, .int .u16 q.delay, .int .u32 q.height, .int .i64 q.dead, .int .i64 q.budget, .int .i64 q.start, .int .i64 q.fee] 35)
  rw [← hX]
  generalize ((w.alloc (.cells #[.int .i64 r.kind, .int .i64 r.num, .int .u32 r.tx.ver, .slice ia n1 ic, .slice oa n2 oc, .int .u32 r.tx.lock, .int .i64 r.index, .string r.id, .int .u32 r.idx, .int .i64 r.val, .int .i64 r.br, .int .u16 r.tag, .int .u16 r.delay, .int .u32 r.height, .int .i64 r.dead, .int .i64 r.budget, .int .i64 r.start, .int .i64 r.fee] 35)).alloc (.cells #[.int .i64 q.kind, .int .i64 q.num, .int .u32 q.tx.ver, .slice ja n3 jc, .slice qa n4 qc, .int .u32 q.tx.lock, .int .i64 q.index, .string q.id, .int .u32 q.idx, .int .i64 q.val, .int .i64 q.br, .int .u16 q.tag, .int .u16 q.delay, .int .u32 q.height, .int .i64 q.dead, .int .i64 q.budget, .int .i64 q.start, .int .i64 q.fee] 35)) = w0 at *
  obtain ⟨hz0, hz1, hal⟩ := hnews
  have HZ0 := hid hz0
  have HZ1 := hid hz1
  have HB := hid hal
  have HX := hid hX
  have HS := hid (same_any _ _ r.tx q.tx w0 (HT1.out.below hal) (HT2.out.below hal))
  have x2 : w0.cell? ⟨X, 2, none⟩ = some (.int .u32 r.tx.ver) := cell_at hz0
  have y2 : w0.cell? ⟨X + 1, 2, none⟩ = some (.int .u32 q.tx.ver) := cell_at hz1
  have x3 : w0.cell? ⟨X, 3, none⟩ = some (.slice ia n1 ic) := cell_at hz0
  have y3 : w0.cell? ⟨X + 1, 3, none⟩ = some (.slice ja n3 jc) := cell_at hz1
  have x4 : w0.cell? ⟨X, 4, none⟩ = some (.slice oa n2 oc) := cell_at hz0
  have y4 : w0.cell? ⟨X + 1, 4, none⟩ = some (.slice qa n4 qc) := cell_at hz1
  have x5 : w0.cell? ⟨X, 5, none⟩ = some (.int .u32 r.tx.lock) := cell_at hz0
  have y5 : w0.cell? ⟨X + 1, 5, none⟩ = some (.int .u32 q.tx.lock) := cell_at hz1
  clear hz0 hz1 hal hX HT1 HT2
  rw [← HTB.out] at HS
  go_wp2_with fail
  refine HS.out.mono ?_
  rintro e w1 ⟨rfl, hb⟩
  have HZ0 := hid ((hb.block X (Array.getElem?_eq_some_iff.1 HZ0.out).1).trans HZ0.out)
  have HZ1 := hid ((hb.block (X + 1) (Array.getElem?_eq_some_iff.1 HZ1.out).1).trans HZ1.out)
  have HB := hid (HB.out.trans (hb.mono HB.out.size))
  clear hb HS x2 x3 x4 x5 y2 y3 y4 y5
  have HR0 := hid (show w1.rangeAt X 7 [.string r.id, .int .u32 r.idx, .int .i64 r.val, .int .i64 r.br, .int .u16 r.tag, .int .u16 r.delay, .int .u32 r.height, .int .i64 r.dead] from range_of [.int .i64 r.kind, .int .i64 r.num, .int .u32 r.tx.ver, .slice ia n1 ic, .slice oa n2 oc, .int .u32 r.tx.lock, .int .i64 r.index] [.string r.id, .int .u32 r.idx, .int .i64 r.val, .int .i64 r.br, .int .u16 r.tag, .int .u16 r.delay, .int .u32 r.height, .int .i64 r.dead] [.int .i64 r.budget, .int .i64 r.start, .int .i64 r.fee] HZ0.out)
  have HNW := hid (heap_alloc_new w1 (.cells #[.string ⟨#[]⟩, .int .u32 0, .int .i64 0, .int .i64 0, .int .u16 0, .int .u16 0, .int .u32 0, .int .i64 0] 33))
  have HNR := hid (setRow_heap (w1.alloc (.cells #[.string ⟨#[]⟩, .int .u32 0, .int .i64 0, .int .i64 0, .int .u16 0, .int .u16 0, .int .u32 0, .int .i64 0] 33)) w1.heap.size _ #[.string r.id, .int .u32 r.idx, .int .i64 r.val, .int .i64 r.br, .int .u16 r.tag, .int .u16 r.delay, .int .u32 r.height, .int .i64 r.dead] _ _ HNW.out)
  have HAL := hid (show Below w1.heap.size w1 ((w1.alloc (.cells #[.string ⟨#[]⟩, .int .u32 0, .int .i64 0, .int .i64 0, .int .u16 0, .int .u16 0, .int .u32 0, .int .i64 0] 33)).setRow w1.heap.size #[.string r.id, .int .u32 r.idx, .int .i64 r.val, .int .i64 r.br, .int .u16 r.tag, .int .u16 r.delay, .int .u32 r.height, .int .i64 r.dead]) from below_rowE ((Below.refl _ _).alloc (Nat.le_refl _) _) (Nat.le_refl _) _)
  go_upto_region 2 with fail
  go_upto_region 3 with (first | (refine wpList_load_mid rfl 33 (.tmp 14) rfl X 7 rfl [.string r.id, .int .u32 r.idx, .int .i64 r.val, .int .i64 r.br, .int .u16 r.tag, .int .u16 r.delay, .int .u32 r.height, .int .i64 r.dead] _ HR0.out Tryz.underlying33 rfl (by kernel_rfl) ?_) | (refine wpList_store_row rfl 33 (.tmp 6) (.tmp 15) rfl w1.heap.size #[.string r.id, .int .u32 r.idx, .int .i64 r.val, .int .i64 r.br, .int .u16 r.tag, .int .u16 r.delay, .int .u32 r.height, .int .i64 r.dead] rfl rfl 33 _ HNW.out (by kernel_rfl) rfl (by kernel_rfl) ?_))
  clear HNW HR0
  obtain ⟨V, hV⟩ : ∃ q, q = w1.heap.size := ⟨_, rfl⟩
  rw [← hV]
  have hz := HNR.out
  have hal := HAL.out
  clear HNR HAL
  rw [← hV] at hz hal
  generalize World.setRow _ V _ = w2 at *
  rw [hV] at hal
  have HV := hid hz
  have HZ0 := hid (stay HZ0.out hal)
  have HZ1 := hid (stay HZ1.out hal)
  have HB := hid (HB.out.trans (hal.mono HB.out.size))
  clear hz hal hV
  have HR0 := hid (show w2.rangeAt (X + 1) 7 [.string q.id, .int .u32 q.idx, .int .i64 q.val, .int .i64 q.br, .int .u16 q.tag, .int .u16 q.delay, .int .u32 q.height, .int .i64 q.dead] from range_of [.int .i64 q.kind, .int .i64 q.num, .int .u32 q.tx.ver, .slice ja n3 jc, .slice qa n4 qc, .int .u32 q.tx.lock, .int .i64 q.index] [.string q.id, .int .u32 q.idx, .int .i64 q.val, .int .i64 q.br, .int .u16 q.tag, .int .u16 q.delay, .int .u32 q.height, .int .i64 q.dead] [.int .i64 q.budget, .int .i64 q.start, .int .i64 q.fee] HZ1.out)
  have HNW := hid (heap_alloc_new w2 (.cells #[.string ⟨#[]⟩, .int .u32 0, .int .i64 0, .int .i64 0, .int .u16 0, .int .u16 0, .int .u32 0, .int .i64 0] 33))
  have HNR := hid (setRow_heap (w2.alloc (.cells #[.string ⟨#[]⟩, .int .u32 0, .int .i64 0, .int .i64 0, .int .u16 0, .int .u16 0, .int .u32 0, .int .i64 0] 33)) w2.heap.size _ #[.string q.id, .int .u32 q.idx, .int .i64 q.val, .int .i64 q.br, .int .u16 q.tag, .int .u16 q.delay, .int .u32 q.height, .int .i64 q.dead] _ _ HNW.out)
  have HAL := hid (show Below w2.heap.size w2 ((w2.alloc (.cells #[.string ⟨#[]⟩, .int .u32 0, .int .i64 0, .int .i64 0, .int .u16 0, .int .u16 0, .int .u32 0, .int .i64 0] 33)).setRow w2.heap.size #[.string q.id, .int .u32 q.idx, .int .i64 q.val, .int .i64 q.br, .int .u16 q.tag, .int .u16 q.delay, .int .u32 q.height, .int .i64 q.dead]) from below_rowE ((Below.refl _ _).alloc (Nat.le_refl _) _) (Nat.le_refl _) _)
  go_upto_region 4 with (first | (refine wpList_load_mid rfl 33 (.tmp 16) rfl (X + 1) 7 rfl [.string q.id, .int .u32 q.idx, .int .i64 q.val, .int .i64 q.br, .int .u16 q.tag, .int .u16 q.delay, .int .u32 q.height, .int .i64 q.dead] _ HR0.out Tryz.underlying33 rfl (by kernel_rfl) ?_) | (refine wpList_store_row rfl 33 (.tmp 7) (.tmp 17) rfl w2.heap.size #[.string q.id, .int .u32 q.idx, .int .i64 q.val, .int .i64 q.br, .int .u16 q.tag, .int .u16 q.delay, .int .u32 q.height, .int .i64 q.dead] rfl rfl 33 _ HNW.out (by kernel_rfl) rfl (by kernel_rfl) ?_))
  clear HNW HR0
  obtain ⟨U, hV⟩ : ∃ q, q = w2.heap.size := ⟨_, rfl⟩
  rw [← hV]
  have hz := HNR.out
  have hal := HAL.out
  clear HNR HAL
  rw [← hV] at hz hal
  generalize World.setRow _ U _ = w3 at *
  rw [hV] at hal
  have HU := hid hz
  have HZ0 := hid (stay HZ0.out hal)
  have HZ1 := hid (stay HZ1.out hal)
  have HB := hid (HB.out.trans (hal.mono HB.out.size))
  have HV := hid (stay HV.out hal)
  clear hz hal hV
  rw [show ∀ (a : Act) (v : Value), a.put none v = a from fun _ _ => rfl]
  simp only [List.cons_append, List.nil_append, List.append_eq]
  have HB3 := HB
  go_cut [8] (fun s8 wx => s8 = .bool cl ∧ w3 = wx)
  case first =>
    have v0 : w3.cell? ⟨V, 0, none⟩ = some (.string r.id) := cell_at HV.out
    have u0 : w3.cell? ⟨U, 0, none⟩ = some (.string q.id) := cell_at HU.out
    have v1 : w3.cell? ⟨V, 1, none⟩ = some (.int .u32 r.idx) := cell_at HV.out
    have u1 : w3.cell? ⟨U, 1, none⟩ = some (.int .u32 q.idx) := cell_at HU.out
    have v2 : w3.cell? ⟨V, 2, none⟩ = some (.int .i64 r.val) := cell_at HV.out
    have u2 : w3.cell? ⟨U, 2, none⟩ = some (.int .i64 q.val) := cell_at HU.out
    have v3 : w3.cell? ⟨V, 3, none⟩ = some (.int .i64 r.br) := cell_at HV.out
    have u3 : w3.cell? ⟨U, 3, none⟩ = some (.int .i64 q.br) := cell_at HU.out
    have v4 : w3.cell? ⟨V, 4, none⟩ = some (.int .u16 r.tag) := cell_at HV.out
    have u4 : w3.cell? ⟨U, 4, none⟩ = some (.int .u16 q.tag) := cell_at HU.out
    have v5 : w3.cell? ⟨V, 5, none⟩ = some (.int .u16 r.delay) := cell_at HV.out
    have u5 : w3.cell? ⟨U, 5, none⟩ = some (.int .u16 q.delay) := cell_at HU.out
    have v6 : w3.cell? ⟨V, 6, none⟩ = some (.int .u32 r.height) := cell_at HV.out
    have u6 : w3.cell? ⟨U, 6, none⟩ = some (.int .u32 q.height) := cell_at HU.out
    have v7 : w3.cell? ⟨V, 7, none⟩ = some (.int .i64 r.dead) := cell_at HV.out
    have u7 : w3.cell? ⟨U, 7, none⟩ = some (.int .i64 q.dead) := cell_at HU.out
    by_cases d0 : (r.id.toList == q.id.toList) = true
    rotate_left
    · have d0' : (r.id.toList == q.id.toList) = false := by simpa using d0
      have d0p : ¬ r.id.toList = q.id.toList := by simpa using d0
      clear d0
      go_wp2_with fail
      go_meet
      refine ⟨?_, rfl⟩
      rw [HCL.out]
      simp only [d0', Bool.false_and, Bool.and_false, Bool.true_and, Bool.and_true]
    have d0p : r.id.toList = q.id.toList := by simpa using d0
    by_cases d1 : ((r.idx : Int) == (q.idx : Int)) = true
    rotate_left
    · have d1' : ((r.idx : Int) == (q.idx : Int)) = false := by simpa using d1
      clear d1
      go_wp2_with fail
      go_meet
      refine ⟨?_, rfl⟩
      rw [HCL.out]
      simp only [d0, d1', Bool.false_and, Bool.and_false, Bool.true_and, Bool.and_true]
    by_cases d2 : (r.val == q.val) = true
    rotate_left
    · have d2' : (r.val == q.val) = false := by simpa using d2
      clear d2
      go_wp2_with fail
      go_meet
      refine ⟨?_, rfl⟩
      rw [HCL.out]
      simp only [d0, d1, d2', Bool.false_and, Bool.and_false, Bool.true_and, Bool.and_true]
    by_cases d3 : (r.br == q.br) = true
    rotate_left
    · have d3' : (r.br == q.br) = false := by simpa using d3
      clear d3
      go_wp2_with fail
      go_meet
      refine ⟨?_, rfl⟩
      rw [HCL.out]
      simp only [d0, d1, d2, d3', Bool.false_and, Bool.and_false, Bool.true_and, Bool.and_true]
    by_cases d4 : ((r.tag : Int) == (q.tag : Int)) = true
    rotate_left
    · have d4' : ((r.tag : Int) == (q.tag : Int)) = false := by simpa using d4
      clear d4
      go_wp2_with fail
      go_meet
      refine ⟨?_, rfl⟩
      rw [HCL.out]
      simp only [d0, d1, d2, d3, d4', Bool.false_and, Bool.and_false, Bool.true_and, Bool.and_true]
    by_cases d5 : ((r.delay : Int) == (q.delay : Int)) = true
    rotate_left
    · have d5' : ((r.delay : Int) == (q.delay : Int)) = false := by simpa using d5
      clear d5
      go_wp2_with fail
      go_meet
      refine ⟨?_, rfl⟩
      rw [HCL.out]
      simp only [d0, d1, d2, d3, d4, d5', Bool.false_and, Bool.and_false, Bool.true_and, Bool.and_true]
    by_cases d6 : ((r.height : Int) == (q.height : Int)) = true
    rotate_left
    · have d6' : ((r.height : Int) == (q.height : Int)) = false := by simpa using d6
      clear d6
      go_wp2_with fail
      go_meet
      refine ⟨?_, rfl⟩
      rw [HCL.out]
      simp only [d0, d1, d2, d3, d4, d5, d6', Bool.false_and, Bool.and_false, Bool.true_and, Bool.and_true]
    by_cases d7 : (r.dead == q.dead) = true
    rotate_left
    · have d7' : (r.dead == q.dead) = false := by simpa using d7
      clear d7
      go_wp2_with fail
      go_meet
      refine ⟨?_, rfl⟩
      rw [HCL.out]
      simp only [d0, d1, d2, d3, d4, d5, d6, d7', Bool.false_and, Bool.and_false, Bool.true_and, Bool.and_true]
    go_wp2_with fail
    go_meet
    refine ⟨?_, rfl⟩
    rw [HCL.out]
    simp only [d0, d1, d2, d3, d4, d5, d6, d7, Bool.false_and, Bool.and_false, Bool.true_and, Bool.and_true]
  case rest =>
    obtain ⟨rfl, rfl⟩ := hcut
    have x0 : w3.cell? ⟨X, 0, none⟩ = some (.int .i64 r.kind) := cell_at HZ0.out
    have y0 : w3.cell? ⟨X + 1, 0, none⟩ = some (.int .i64 q.kind) := cell_at HZ1.out
    have x1 : w3.cell? ⟨X, 1, none⟩ = some (.int .i64 r.num) := cell_at HZ0.out
    have y1 : w3.cell? ⟨X + 1, 1, none⟩ = some (.int .i64 q.num) := cell_at HZ1.out
    have x6 : w3.cell? ⟨X, 6, none⟩ = some (.int .i64 r.index) := cell_at HZ0.out
    have y6 : w3.cell? ⟨X + 1, 6, none⟩ = some (.int .i64 q.index) := cell_at HZ1.out
    have x15 : w3.cell? ⟨X, 15, none⟩ = some (.int .i64 r.budget) := cell_at HZ0.out
    have y15 : w3.cell? ⟨X + 1, 15, none⟩ = some (.int .i64 q.budget) := cell_at HZ1.out
    have x16 : w3.cell? ⟨X, 16, none⟩ = some (.int .i64 r.start) := cell_at HZ0.out
    have y16 : w3.cell? ⟨X + 1, 16, none⟩ = some (.int .i64 q.start) := cell_at HZ1.out
    have x17 : w3.cell? ⟨X, 17, none⟩ = some (.int .i64 r.fee) := cell_at HZ0.out
    have y17 : w3.cell? ⟨X + 1, 17, none⟩ = some (.int .i64 q.fee) := cell_at HZ1.out
    by_cases d0 : (r.kind == q.kind) = true
    rotate_left
    · have d0' : (r.kind == q.kind) = false := by simpa using d0
      clear d0
      go_wp2_with fail
      go_ret
      refine ⟨?_, HB.out⟩
      rw [HSB.out]
      simp only [d0', Bool.false_and, Bool.and_false, Bool.true_and, Bool.and_true]
      rfl
    by_cases d1 : (r.num == q.num) = true
    rotate_left
    · have d1' : (r.num == q.num) = false := by simpa using d1
      clear d1
      go_wp2_with fail
      go_ret
      refine ⟨?_, HB.out⟩
      rw [HSB.out]
      simp only [d0, d1', Bool.false_and, Bool.and_false, Bool.true_and, Bool.and_true]
      rfl
    cases tb with
    | false =>
      go_wp2_with fail
      go_ret
      refine ⟨?_, HB.out⟩
      rw [HSB.out]
      simp only [d0, d1, Bool.false_and, Bool.and_false, Bool.true_and, Bool.and_true]
      rfl
    | true =>
      by_cases d3 : (r.index == q.index) = true
      rotate_left
      · have d3' : (r.index == q.index) = false := by simpa using d3
        clear d3
        go_wp2_with fail
        go_ret
        refine ⟨?_, HB.out⟩
        rw [HSB.out]
        simp only [d0, d1, d3', Bool.false_and, Bool.and_false, Bool.true_and, Bool.and_true]
        rfl
      cases cl with
      | false =>
        go_wp2_with fail
        go_ret
        refine ⟨?_, HB.out⟩
        rw [HSB.out]
        simp only [d0, d1, d3, Bool.false_and, Bool.and_false, Bool.true_and, Bool.and_true]
        rfl
      | true =>
        by_cases d5 : (r.budget == q.budget) = true
        rotate_left
        · have d5' : (r.budget == q.budget) = false := by simpa using d5
          clear d5
          go_wp2_with fail
          go_ret
          refine ⟨?_, HB.out⟩
          rw [HSB.out]
          simp only [d0, d1, d3, d5', Bool.false_and, Bool.and_false, Bool.true_and, Bool.and_true]
          rfl
        by_cases d6 : (r.start == q.start) = true
        rotate_left
        · have d6' : (r.start == q.start) = false := by simpa using d6
          clear d6
          go_wp2_with fail
          go_ret
          refine ⟨?_, HB.out⟩
          rw [HSB.out]
          simp only [d0, d1, d3, d5, d6', Bool.false_and, Bool.and_false, Bool.true_and, Bool.and_true]
          rfl
        by_cases d7 : (r.fee == q.fee) = true
        rotate_left
        · have d7' : (r.fee == q.fee) = false := by simpa using d7
          clear d7
          go_wp2_with fail
          go_ret
          refine ⟨?_, HB.out⟩
          rw [HSB.out]
          simp only [d0, d1, d3, d5, d6, d7', Bool.false_and, Bool.and_false, Bool.true_and, Bool.and_true]
          rfl
        go_wp2_with fail
        go_ret
        refine ⟨?_, HB.out⟩
        rw [HSB.out]
        simp only [d0, d1, d3, d5, d6, d7, Bool.false_and, Bool.and_false, Bool.true_and, Bool.and_true]
        rfl
end Go.Proofs.YtaooibocknemkaaGreat
