/-
  rec.ranged, kind by kind. Conditions: the record lies in memory, with no more than 1,000 outputs.
-/
import Derived.Test.YtaooibocknemkaaGreatQ9RecPuts
namespace Go.Proofs.YtaooibocknemkaaGreat
open Go.RowKit Go.BigFrame
open Go.Lib (hid)
set_option linter.unusedVariables false
set_option linter.unusedSimpArgs false
set_option maxRecDepth 100000 in
set_option maxHeartbeats 8000000 in
theorem ranged_k2 (v1 : Value) (r : PRec) (w : World) (h1 : RecAt w v1 r) (hlen : r.tx.outs.length ≤ 1000) (h0 : ¬ r.num < 0) (h2 : ¬ 2147483647 < r.num) (hk : r.kind = 2) : Calls Tryz.prog 46 #[v1] w (BIs (askedB r && ((r.id.size : Int) == 32)) w) := by
  obtain ⟨va, vb, rfl, hi1, ho1, hk1⟩ := h1
  have HI := hid hi1
  have HO := hid ho1
  have HK := hid hk1
  obtain ⟨ia, ic, rfl, -, -⟩ := hi1.shape
  obtain ⟨oa, oc, rfl, -, -⟩ := ho1.shape
  obtain ⟨n1, hn1⟩ : ∃ n, n = r.tx.ins.length := ⟨_, rfl⟩
  obtain ⟨n2, hn2⟩ : ∃ n, n = r.tx.outs.length := ⟨_, rfl⟩
  have HN1 := hid hn1
  have HN2 := hid hn2
  rw [← hn1, ← hn2]
  rw [← hn1] at HI
  rw [← hn2] at HO
  clear hn1 hn2 hi1 ho1
  have HA := hid (fun (y : World) (h : Below w.heap.size w y) => asked_any (.agg #[.int .i64 r.kind, .int .i64 r.num, .int .u32 r.tx.ver, .slice ia n1 ic, .slice oa n2 oc, .int .u32 r.tx.lock, .int .i64 r.index, .string r.id, .int .u32 r.idx, .int .i64 r.val, .int .i64 r.br, .int .u16 r.tag, .int .u16 r.delay, .int .u32 r.height, .int .i64 r.dead, .int .i64 r.budget, .int .i64 r.start, .int .i64 r.fee]) r y ⟨_, _, rfl, HI.out.below h, HO.out.below h, HK.out⟩)
  obtain ⟨ba, hba⟩ : ∃ b, b = askedB r := ⟨_, rfl⟩
  obtain ⟨bi, hbi⟩ : ∃ b, b = ((r.id.size : Int) == 32) := ⟨_, rfl⟩
  rw [← hba, ← hbi]
  have HA := hid (fun (y : World) (h : Below w.heap.size w y) => hba ▸ HA.out y h)
  have ci := hbi.symm
  clear HI HO HN1 HN2 HK hk1 hlen hba hbi
  have c1 : (r.kind == 1) = false := by rw [beq_eq_false_iff_ne]; omega
  have c2 : (r.kind == 2) = true := by rw [beq_iff_eq]; exact hk
  clear hk
  go_enter Tryz.func46, Tryz.ntmps46
  go_upto_region 1 with fail
  have hz := heap_alloc_new w (.cells #[.int .i64 r.kind, .int .i64 r.num, .int .u32 r.tx.ver, .slice ia n1 ic, .slice oa n2 oc, .int .u32 r.tx.lock, .int .i64 r.index, .string r.id, .int .u32 r.idx, .int .i64 r.val, .int .i64 r.br, .int .u16 r.tag, .int .u16 r.delay, .int .u32 r.height, .int .i64 r.dead, .int .i64 r.budget, .int .i64 r.start, .int .i64 r.fee] 35)
  have hal : Below w.heap.size w (w.alloc (.cells #[.int .i64 r.kind, .int .i64 r.num, .int .u32 r.tx.ver, .slice ia n1 ic, .slice oa n2 oc, .int .u32 r.tx.lock, .int .i64 r.index, .string r.id, .int .u32 r.idx, .int .i64 r.val, .int .i64 r.br, .int .u16 r.tag, .int .u16 r.delay, .int .u32 r.height, .int .i64 r.dead, .int .i64 r.budget, .int .i64 r.start, .int .i64 r.fee] 35)) := (Below.refl _ _).alloc (Nat.le_refl _) _
  obtain ⟨X, hX⟩ : ∃ q, q = w.heap.size := ⟨_, rfl⟩
  rw [← hX] at hz ⊢
  generalize w.alloc (.cells #[.int .i64 r.kind, .int .i64 r.num, .int .u32 r.tx.ver, .slice ia n1 ic, .slice oa n2 oc, .int .u32 r.tx.lock, .int .i64 r.index, .string r.id, .int .u32 r.idx, .int .i64 r.val, .int .i64 r.br, .int .u16 r.tag, .int .u16 r.delay, .int .u32 r.height, .int .i64 r.dead, .int .i64 r.budget, .int .i64 r.start, .int .i64 r.fee] 35) = w0 at *
  have hz0 := hz
  clear hz
  have HB := hid hal
  have HZ0 := hid hz0
  have x0 : w0.cell? ⟨X, 0, none⟩ = some (.int .i64 r.kind) := cell_at hz0
  have x1 : w0.cell? ⟨X, 1, none⟩ = some (.int .i64 r.num) := cell_at hz0
  have x2 : w0.cell? ⟨X, 2, none⟩ = some (.int .u32 r.tx.ver) := cell_at hz0
  have x3 : w0.cell? ⟨X, 3, none⟩ = some (.slice ia n1 ic) := cell_at hz0
  have x4 : w0.cell? ⟨X, 4, none⟩ = some (.slice oa n2 oc) := cell_at hz0
  have x5 : w0.cell? ⟨X, 5, none⟩ = some (.int .u32 r.tx.lock) := cell_at hz0
  have x6 : w0.cell? ⟨X, 6, none⟩ = some (.int .i64 r.index) := cell_at hz0
  have x7 : w0.cell? ⟨X, 7, none⟩ = some (.string r.id) := cell_at hz0
  have x8 : w0.cell? ⟨X, 8, none⟩ = some (.int .u32 r.idx) := cell_at hz0
  have x9 : w0.cell? ⟨X, 9, none⟩ = some (.int .i64 r.val) := cell_at hz0
  have x10 : w0.cell? ⟨X, 10, none⟩ = some (.int .i64 r.br) := cell_at hz0
  have x11 : w0.cell? ⟨X, 11, none⟩ = some (.int .u16 r.tag) := cell_at hz0
  have x12 : w0.cell? ⟨X, 12, none⟩ = some (.int .u16 r.delay) := cell_at hz0
  have x13 : w0.cell? ⟨X, 13, none⟩ = some (.int .u32 r.height) := cell_at hz0
  have x14 : w0.cell? ⟨X, 14, none⟩ = some (.int .i64 r.dead) := cell_at hz0
  have x15 : w0.cell? ⟨X, 15, none⟩ = some (.int .i64 r.budget) := cell_at hz0
  have x16 : w0.cell? ⟨X, 16, none⟩ = some (.int .i64 r.start) := cell_at hz0
  have x17 : w0.cell? ⟨X, 17, none⟩ = some (.int .i64 r.fee) := cell_at hz0
  clear hz0 hal hX
  go_wp2_with (first
    | (refine wpList_load_row rfl 35 (.tmp 1) rfl X rfl 35 _ (0, 0) _ HZ0.out Tryz.underlying35 rfl (by kernel_rfl) ?_))
  refine (HA.out w0 HB.out).mono ?_
  rintro e w1 ⟨rfl, hb⟩
  have HB := hid (HB.out.trans (hb.mono HB.out.size))
  have HZ0 := hid ((hb.block _ (block_lt_of_cell x0)).trans HZ0.out)
  replace x0 := below_cells hb _ _ x0
  replace x1 := below_cells hb _ _ x1
  replace x2 := below_cells hb _ _ x2
  replace x3 := below_cells hb _ _ x3
  replace x4 := below_cells hb _ _ x4
  replace x5 := below_cells hb _ _ x5
  replace x6 := below_cells hb _ _ x6
  replace x7 := below_cells hb _ _ x7
  replace x8 := below_cells hb _ _ x8
  replace x9 := below_cells hb _ _ x9
  replace x10 := below_cells hb _ _ x10
  replace x11 := below_cells hb _ _ x11
  replace x12 := below_cells hb _ _ x12
  replace x13 := below_cells hb _ _ x13
  replace x14 := below_cells hb _ _ x14
  replace x15 := below_cells hb _ _ x15
  replace x16 := below_cells hb _ _ x16
  replace x17 := below_cells hb _ _ x17
  clear hb
  cases ba
  · go_wp2_with (first
      | (refine wpList_load_row rfl 35 (.tmp 1) rfl X rfl 35 _ (0, 0) _ HZ0.out Tryz.underlying35 rfl (by kernel_rfl) ?_))
    go_ret
    exact ⟨rfl, HB.out⟩
  cases bi
  · go_wp2_with (first
      | (refine wpList_load_row rfl 35 (.tmp 1) rfl X rfl 35 _ (0, 0) _ HZ0.out Tryz.underlying35 rfl (by kernel_rfl) ?_))
    go_ret
    exact ⟨rfl, HB.out⟩
  go_wp2_with (first
    | (refine wpList_load_row rfl 35 (.tmp 1) rfl X rfl 35 _ (0, 0) _ HZ0.out Tryz.underlying35 rfl (by kernel_rfl) ?_))
  go_ret
  exact ⟨rfl, HB.out⟩
set_option maxRecDepth 100000 in
set_option maxHeartbeats 8000000 in
theorem ranged_k4 (v1 : Value) (r : PRec) (w : World) (h1 : RecAt w v1 r) (hlen : r.tx.outs.length ≤ 1000) (h0 : ¬ r.num < 0) (h2 : ¬ 2147483647 < r.num) (hk : r.kind = 4) : Calls Tryz.prog 46 #[v1] w (BIs (((((r.id.size : Int) == 32) && decide (0 ≤ r.index)) && decide (r.index ≤ 32)) && goodA r.fee) w) := by
  obtain ⟨va, vb, rfl, hi1, ho1, hk1⟩ := h1
  have HI := hid hi1
  have HO := hid ho1
  have HK := hid hk1
  obtain ⟨ia, ic, rfl, -, -⟩ := hi1.shape
  obtain ⟨oa, oc, rfl, -, -⟩ := ho1.shape
  obtain ⟨n1, hn1⟩ : ∃ n, n = r.tx.ins.length := ⟨_, rfl⟩
  obtain ⟨n2, hn2⟩ : ∃ n, n = r.tx.outs.length := ⟨_, rfl⟩
  have HN1 := hid hn1
  have HN2 := hid hn2
  rw [← hn1, ← hn2]
  rw [← hn1] at HI
  rw [← hn2] at HO
  clear hn1 hn2 hi1 ho1
  obtain ⟨bi, hbi⟩ : ∃ b, b = ((r.id.size : Int) == 32) := ⟨_, rfl⟩
  obtain ⟨bn, hbn⟩ : ∃ b, b = decide (0 ≤ r.index) := ⟨_, rfl⟩
  obtain ⟨bl, hbl⟩ : ∃ b, b = decide (r.index ≤ 32) := ⟨_, rfl⟩
  obtain ⟨bg, hbg⟩ : ∃ b, b = goodA r.fee := ⟨_, rfl⟩
  rw [← hbi, ← hbn, ← hbl, ← hbg]
  have ci := hbi.symm
  have HBn := hid hbn
  have HBl := hid hbl
  have HG := hid (fun y : World => hbg ▸ good_any r.fee y)
  clear HI HO HN1 HN2 HK hk1 hlen hbi hbn hbl hbg
  have c1 : (r.kind == 1) = false := by rw [beq_eq_false_iff_ne]; omega
  have c2 : (r.kind == 2) = false := by rw [beq_eq_false_iff_ne]; omega
  have c3 : (r.kind == 3) = false := by rw [beq_eq_false_iff_ne]; omega
  have c4 : (r.kind == 4) = true := by rw [beq_iff_eq]; exact hk
  clear hk
  go_enter Tryz.func46, Tryz.ntmps46
  go_upto_region 1 with fail
  have hz := heap_alloc_new w (.cells #[.int .i64 r.kind, .int .i64 r.num, .int .u32 r.tx.ver, .slice ia n1 ic, .slice oa n2 oc, .int .u32 r.tx.lock, .int .i64 r.index, .string r.id, .int .u32 r.idx, .int .i64 r.val, .int .i64 r.br, .int .u16 r.tag, .int .u16 r.delay, .int .u32 r.height, .int .i64 r.dead, .int .i64 r.budget, .int .i64 r.start, .int .i64 r.fee] 35)
  have hal : Below w.heap.size w (w.alloc (.cells #[.int .i64 r.kind, .int .i64 r.num, .int .u32 r.tx.ver, .slice ia n1 ic, .slice oa n2 oc, .int .u32 r.tx.lock, .int .i64 r.index, .string r.id, .int .u32 r.idx, .int .i64 r.val, .int .i64 r.br, .int .u16 r.tag, .int .u16 r.delay, .int .u32 r.height, .int .i64 r.dead, .int .i64 r.budget, .int .i64 r.start, .int .i64 r.fee] 35)) := (Below.refl _ _).alloc (Nat.le_refl _) _
  obtain ⟨X, hX⟩ : ∃ q, q = w.heap.size := ⟨_, rfl⟩
  rw [← hX] at hz ⊢
  generalize w.alloc (.cells #[.int .i64 r.kind, .int .i64 r.num, .int .u32 r.tx.ver, .slice ia n1 ic, .slice oa n2 oc, .int .u32 r.tx.lock, .int .i64 r.index, .string r.id, .int .u32 r.idx, .int .i64 r.val, .int .i64 r.br, .int .u16 r.tag, .int .u16 r.delay, .int .u32 r.height, .int .i64 r.dead, .int .i64 r.budget, .int .i64 r.start, .int .i64 r.fee] 35) = w0 at *
  have hz0 := hz
  clear hz
  have HB := hid hal
  have HZ0 := hid hz0
  have x0 : w0.cell? ⟨X, 0, none⟩ = some (.int .i64 r.kind) := cell_at hz0
  have x1 : w0.cell? ⟨X, 1, none⟩ = some (.int .i64 r.num) := cell_at hz0
  have x2 : w0.cell? ⟨X, 2, none⟩ = some (.int .u32 r.tx.ver) := cell_at hz0
  have x3 : w0.cell? ⟨X, 3, none⟩ = some (.slice ia n1 ic) := cell_at hz0
  have x4 : w0.cell? ⟨X, 4, none⟩ = some (.slice oa n2 oc) := cell_at hz0
  have x5 : w0.cell? ⟨X, 5, none⟩ = some (.int .u32 r.tx.lock) := cell_at hz0
  have x6 : w0.cell? ⟨X, 6, none⟩ = some (.int .i64 r.index) := cell_at hz0
  have x7 : w0.cell? ⟨X, 7, none⟩ = some (.string r.id) := cell_at hz0
  have x8 : w0.cell? ⟨X, 8, none⟩ = some (.int .u32 r.idx) := cell_at hz0
  have x9 : w0.cell? ⟨X, 9, none⟩ = some (.int .i64 r.val) := cell_at hz0
  have x10 : w0.cell? ⟨X, 10, none⟩ = some (.int .i64 r.br) := cell_at hz0
  have x11 : w0.cell? ⟨X, 11, none⟩ = some (.int .u16 r.tag) := cell_at hz0
  have x12 : w0.cell? ⟨X, 12, none⟩ = some (.int .u16 r.delay) := cell_at hz0
  have x13 : w0.cell? ⟨X, 13, none⟩ = some (.int .u32 r.height) := cell_at hz0
  have x14 : w0.cell? ⟨X, 14, none⟩ = some (.int .i64 r.dead) := cell_at hz0
  have x15 : w0.cell? ⟨X, 15, none⟩ = some (.int .i64 r.budget) := cell_at hz0
  have x16 : w0.cell? ⟨X, 16, none⟩ = some (.int .i64 r.start) := cell_at hz0
  have x17 : w0.cell? ⟨X, 17, none⟩ = some (.int .i64 r.fee) := cell_at hz0
  clear hz0 hal hX
  cases bi
  · go_wp2_with (first
      | (refine wpList_load_row rfl 35 (.tmp 1) rfl X rfl 35 _ (0, 0) _ HZ0.out Tryz.underlying35 rfl (by kernel_rfl) ?_))
    go_ret
    exact ⟨rfl, HB.out⟩
  cases bn
  · have h3n : ¬ 0 ≤ r.index := of_decide_eq_false HBn.out.symm
    go_wp2_with (first
      | (refine wpList_load_row rfl 35 (.tmp 1) rfl X rfl 35 _ (0, 0) _ HZ0.out Tryz.underlying35 rfl (by kernel_rfl) ?_))
    go_ret
    exact ⟨rfl, HB.out⟩
  have h3n : 0 ≤ r.index := of_decide_eq_true HBn.out.symm
  cases bl
  · have h3l : ¬ r.index ≤ 32 := of_decide_eq_false HBl.out.symm
    go_wp2_with (first
      | (refine wpList_load_row rfl 35 (.tmp 1) rfl X rfl 35 _ (0, 0) _ HZ0.out Tryz.underlying35 rfl (by kernel_rfl) ?_))
    go_ret
    exact ⟨rfl, HB.out⟩
  have h3l : r.index ≤ 32 := of_decide_eq_true HBl.out.symm
  go_wp2_with (first
    | (refine wpList_load_row rfl 35 (.tmp 1) rfl X rfl 35 _ (0, 0) _ HZ0.out Tryz.underlying35 rfl (by kernel_rfl) ?_))
  refine (HG.out w0).mono ?_
  rintro e w1 ⟨rfl, rfl⟩
  cases bg
  · go_wp2_with (first
      | (refine wpList_load_row rfl 35 (.tmp 1) rfl X rfl 35 _ (0, 0) _ HZ0.out Tryz.underlying35 rfl (by kernel_rfl) ?_))
    go_ret
    exact ⟨rfl, HB.out⟩
  go_wp2_with (first
    | (refine wpList_load_row rfl 35 (.tmp 1) rfl X rfl 35 _ (0, 0) _ HZ0.out Tryz.underlying35 rfl (by kernel_rfl) ?_))
  go_ret
  exact ⟨rfl, HB.out⟩
end Go.Proofs.YtaooibocknemkaaGreat
