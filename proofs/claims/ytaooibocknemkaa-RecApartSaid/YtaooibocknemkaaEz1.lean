/-
  kedgeref26.Same of a record and itself. Conditions: the records lie in memory.
-/
import Derived.Test.YtaooibocknemkaaQ12RecBack
import Derived.Test.YtaooibocknemkaaTxQ
namespace Go.Proofs.Ytaooibocknemkaa
open Go.RowKit Go.BigFrame
set_option linter.unusedVariables false
set_option linter.unusedSimpArgs false
set_option maxRecDepth 100000 in
set_option maxHeartbeats 8000000 in
theorem rsame26_self (v1 v2 : Value) (r : PRec) (w : World) (h1 : RecAt w v1 r) (h2 : RecAt w v2 r) : Calls Try.prog 14 #[v1, v2] w (BIs true w) := by
  obtain ⟨va, vb, rfl, hi1, ho1, hk1⟩ := h1
  obtain ⟨vc, vd, rfl, hi2, ho2, hk2⟩ := h2
  have HT1 := Lib.hid (rec_tx hi1 ho1 hk1)
  have HT2 := Lib.hid (rec_tx hi2 ho2 hk2)
  obtain ⟨ia, ic, rfl, -, -⟩ := hi1.shape
  obtain ⟨oa, oc, rfl, -, -⟩ := ho1.shape
  obtain ⟨ja, jc, rfl, -, -⟩ := hi2.shape
  obtain ⟨qa, qc, rfl, -, -⟩ := ho2.shape
  obtain ⟨n1, hn1⟩ : ∃ n, n = r.tx.ins.length := ⟨_, rfl⟩
  obtain ⟨n2, hn2⟩ : ∃ n, n = r.tx.outs.length := ⟨_, rfl⟩
  rw [← hn1, ← hn2] at HT1 HT2
  rw [← hn1, ← hn2]
  clear hn1 hn2 hi1 ho1 hk1 hi2 ho2 hk2
  go_enter Try.func14, Try.ntmps14
  go_upto_region 1 with fail
  obtain ⟨X, hX⟩ : ∃ q, q = w.heap.size := ⟨_, rfl⟩
  have hnews := new2 w X hX (.cells #[.int .i64 r.kind, .int .i64 r.num, .int .u32 r.tx.ver, .slice ia n1 ic, .slice oa n2 oc, .int .u32 r.tx.lock, .int .i64 r.index, .string r.id, .int .u32 r.idx, .int .i64 r.val, .int .i64 r.br, .int .u16 r.tag, .int .u16 r.delay, .int .u32 r.height, .int .i64 r.dead, .int .i64 r.budget, .int .i64 r.start, .int .i64 r.fee] 38) (.cells #[.int .i64 r.kind, .int .i64 r.num, .int .u32 r.tx.ver, .slice ja n1 jc, .slice qa n2 qc, .int .u32 r.tx.lock, .int .i64 r.index, .string r.id, .int .u32 r.idx, .int .i64 r.val, .int .i64 r.br, .int .u16 r.tag, .int .u16 r.delay, .int .u32 r.height, .int .i64 r.dead, .int .i64 r.budget, .int .i64 r.start, .int .i64 r.fee] 38)
  rw [← hX]
  generalize ((w.alloc (.cells #[.int .i64 r.kind, .int .i64 r.num, .int .u32 r.tx.ver, .slice ia n1 ic, .slice oa n2 oc, .int .u32 r.tx.lock, .int .i64 r.index, .string r.id, .int .u32 r.idx, .int .i64 r.val, .int .i64 r.br, .int .u16 r.tag, .int .u16 r.delay, .int .u32 r.height, .int .i64 r.dead, .int .i64 r.budget, .int .i64 r.start, .int .i64 r.fee] 38)).alloc (.cells #[.int .i64 r.kind, .int .i64 r.num, .int .u32 r.tx.ver, .slice ja n1 jc, .slice qa n2 qc, .int .u32 r.tx.lock, .int .i64 r.index, .string r.id, .int .u32 r.idx, .int .i64 r.val, .int .i64 r.br, .int .u16 r.tag, .int .u16 r.delay, .int .u32 r.height, .int .i64 r.dead, .int .i64 r.budget, .int .i64 r.start, .int .i64 r.fee] 38)) = w0 at *
  obtain ⟨hz0, hz1, hal⟩ := hnews
  have HZ0 := Lib.hid hz0
  have HZ1 := Lib.hid hz1
  have HB := Lib.hid hal
  have HX := Lib.hid hX
  have HS := Lib.hid (same_any _ _ r.tx r.tx w0 (HT1.out.below hal) (HT2.out.below hal))
  have x2 : w0.cell? ⟨X, 2, none⟩ = some (.int .u32 r.tx.ver) := cell_at hz0
  have y2 : w0.cell? ⟨X + 1, 2, none⟩ = some (.int .u32 r.tx.ver) := cell_at hz1
  have x3 : w0.cell? ⟨X, 3, none⟩ = some (.slice ia n1 ic) := cell_at hz0
  have y3 : w0.cell? ⟨X + 1, 3, none⟩ = some (.slice ja n1 jc) := cell_at hz1
  have x4 : w0.cell? ⟨X, 4, none⟩ = some (.slice oa n2 oc) := cell_at hz0
  have y4 : w0.cell? ⟨X + 1, 4, none⟩ = some (.slice qa n2 qc) := cell_at hz1
  have x5 : w0.cell? ⟨X, 5, none⟩ = some (.int .u32 r.tx.lock) := cell_at hz0
  have y5 : w0.cell? ⟨X + 1, 5, none⟩ = some (.int .u32 r.tx.lock) := cell_at hz1
  clear hz0 hz1 hal hX HT1 HT2
  rw [same_yes rfl] at HS
  go_wp2_with fail
  refine HS.out.mono ?_
  rintro e w1 ⟨rfl, hb⟩
  have HZ0 := Lib.hid ((hb.block X (Array.getElem?_eq_some_iff.1 HZ0.out).1).trans HZ0.out)
  have HZ1 := Lib.hid ((hb.block (X + 1) (Array.getElem?_eq_some_iff.1 HZ1.out).1).trans HZ1.out)
  have HB := Lib.hid (HB.out.trans (hb.mono HB.out.size))
  clear hb HS x2 x3 x4 x5 y2 y3 y4 y5
  have HR0 := Lib.hid (show w1.rangeAt X 7 [.string r.id, .int .u32 r.idx, .int .i64 r.val, .int .i64 r.br, .int .u16 r.tag, .int .u16 r.delay, .int .u32 r.height, .int .i64 r.dead] from range_of [.int .i64 r.kind, .int .i64 r.num, .int .u32 r.tx.ver, .slice ia n1 ic, .slice oa n2 oc, .int .u32 r.tx.lock, .int .i64 r.index] [.string r.id, .int .u32 r.idx, .int .i64 r.val, .int .i64 r.br, .int .u16 r.tag, .int .u16 r.delay, .int .u32 r.height, .int .i64 r.dead] [.int .i64 r.budget, .int .i64 r.start, .int .i64 r.fee] HZ0.out)
  have HNW := Lib.hid (heap_alloc_new w1 (.cells #[.string ⟨#[]⟩, .int .u32 0, .int .i64 0, .int .i64 0, .int .u16 0, .int .u16 0, .int .u32 0, .int .i64 0] 36))
  have HNR := Lib.hid (setRow_heap (w1.alloc (.cells #[.string ⟨#[]⟩, .int .u32 0, .int .i64 0, .int .i64 0, .int .u16 0, .int .u16 0, .int .u32 0, .int .i64 0] 36)) w1.heap.size _ #[.string r.id, .int .u32 r.idx, .int .i64 r.val, .int .i64 r.br, .int .u16 r.tag, .int .u16 r.delay, .int .u32 r.height, .int .i64 r.dead] _ _ HNW.out)
  have HAL := Lib.hid (show Below w1.heap.size w1 ((w1.alloc (.cells #[.string ⟨#[]⟩, .int .u32 0, .int .i64 0, .int .i64 0, .int .u16 0, .int .u16 0, .int .u32 0, .int .i64 0] 36)).setRow w1.heap.size #[.string r.id, .int .u32 r.idx, .int .i64 r.val, .int .i64 r.br, .int .u16 r.tag, .int .u16 r.delay, .int .u32 r.height, .int .i64 r.dead]) from below_rowE ((Below.refl _ _).alloc (Nat.le_refl _) _) (Nat.le_refl _) _)
  go_upto_region 2 with fail
  go_upto_region 3 with (first | (refine wpList_load_mid rfl 36 (.tmp 14) rfl X 7 rfl [.string r.id, .int .u32 r.idx, .int .i64 r.val, .int .i64 r.br, .int .u16 r.tag, .int .u16 r.delay, .int .u32 r.height, .int .i64 r.dead] _ HR0.out Try.underlying36 rfl (by kernel_rfl) ?_) | (refine wpList_store_row rfl 36 (.tmp 6) (.tmp 15) rfl w1.heap.size #[.string r.id, .int .u32 r.idx, .int .i64 r.val, .int .i64 r.br, .int .u16 r.tag, .int .u16 r.delay, .int .u32 r.height, .int .i64 r.dead] rfl rfl 36 _ HNW.out (by kernel_rfl) rfl (by kernel_rfl) ?_))
  clear HNW HR0
  obtain ⟨V, hV⟩ : ∃ q, q = w1.heap.size := ⟨_, rfl⟩
  rw [← hV]
  have hz := HNR.out
  have hal := HAL.out
  clear HNR HAL
  rw [← hV] at hz hal
  generalize (w1.alloc (.cells #[.string ⟨#[]⟩, .int .u32 0, .int .i64 0, .int .i64 0, .int .u16 0, .int .u16 0, .int .u32 0, .int .i64 0] 36)).setRow V #[.string r.id, .int .u32 r.idx, .int .i64 r.val, .int .i64 r.br, .int .u16 r.tag, .int .u16 r.delay, .int .u32 r.height, .int .i64 r.dead] = w2 at *
  rw [hV] at hal
  have HV := Lib.hid hz
  have HZ0 := Lib.hid (stay HZ0.out hal)
  have HZ1 := Lib.hid (stay HZ1.out hal)
  have HB := Lib.hid (HB.out.trans (hal.mono HB.out.size))
  clear hz hal hV
  have HR0 := Lib.hid (show w2.rangeAt (X + 1) 7 [.string r.id, .int .u32 r.idx, .int .i64 r.val, .int .i64 r.br, .int .u16 r.tag, .int .u16 r.delay, .int .u32 r.height, .int .i64 r.dead] from range_of [.int .i64 r.kind, .int .i64 r.num, .int .u32 r.tx.ver, .slice ja n1 jc, .slice qa n2 qc, .int .u32 r.tx.lock, .int .i64 r.index] [.string r.id, .int .u32 r.idx, .int .i64 r.val, .int .i64 r.br, .int .u16 r.tag, .int .u16 r.delay, .int .u32 r.height, .int .i64 r.dead] [.int .i64 r.budget, .int .i64 r.start, .int .i64 r.fee] HZ1.out)
  have HNW := Lib.hid (heap_alloc_new w2 (.cells #[.string ⟨#[]⟩, .int .u32 0, .int .i64 0, .int .i64 0, .int .u16 0, .int .u16 0, .int .u32 0, .int .i64 0] 36))
  have HNR := Lib.hid (setRow_heap (w2.alloc (.cells #[.string ⟨#[]⟩, .int .u32 0, .int .i64 0, .int .i64 0, .int .u16 0, .int .u16 0, .int .u32 0, .int .i64 0] 36)) w2.heap.size _ #[.string r.id, .int .u32 r.idx, .int .i64 r.val, .int .i64 r.br, .int .u16 r.tag, .int .u16 r.delay, .int .u32 r.height, .int .i64 r.dead] _ _ HNW.out)
  have HAL := Lib.hid (show Below w2.heap.size w2 ((w2.alloc (.cells #[.string ⟨#[]⟩, .int .u32 0, .int .i64 0, .int .i64 0, .int .u16 0, .int .u16 0, .int .u32 0, .int .i64 0] 36)).setRow w2.heap.size #[.string r.id, .int .u32 r.idx, .int .i64 r.val, .int .i64 r.br, .int .u16 r.tag, .int .u16 r.delay, .int .u32 r.height, .int .i64 r.dead]) from below_rowE ((Below.refl _ _).alloc (Nat.le_refl _) _) (Nat.le_refl _) _)
  go_upto_region 4 with (first | (refine wpList_load_mid rfl 36 (.tmp 16) rfl (X + 1) 7 rfl [.string r.id, .int .u32 r.idx, .int .i64 r.val, .int .i64 r.br, .int .u16 r.tag, .int .u16 r.delay, .int .u32 r.height, .int .i64 r.dead] _ HR0.out Try.underlying36 rfl (by kernel_rfl) ?_) | (refine wpList_store_row rfl 36 (.tmp 7) (.tmp 17) rfl w2.heap.size #[.string r.id, .int .u32 r.idx, .int .i64 r.val, .int .i64 r.br, .int .u16 r.tag, .int .u16 r.delay, .int .u32 r.height, .int .i64 r.dead] rfl rfl 36 _ HNW.out (by kernel_rfl) rfl (by kernel_rfl) ?_))
  clear HNW HR0
  obtain ⟨U, hV⟩ : ∃ q, q = w2.heap.size := ⟨_, rfl⟩
  rw [← hV]
  have hz := HNR.out
  have hal := HAL.out
  clear HNR HAL
  rw [← hV] at hz hal
  generalize (w2.alloc (.cells #[.string ⟨#[]⟩, .int .u32 0, .int .i64 0, .int .i64 0, .int .u16 0, .int .u16 0, .int .u32 0, .int .i64 0] 36)).setRow U #[.string r.id, .int .u32 r.idx, .int .i64 r.val, .int .i64 r.br, .int .u16 r.tag, .int .u16 r.delay, .int .u32 r.height, .int .i64 r.dead] = w3 at *
  rw [hV] at hal
  have HU := Lib.hid hz
  have HZ0 := Lib.hid (stay HZ0.out hal)
  have HZ1 := Lib.hid (stay HZ1.out hal)
  have HB := Lib.hid (HB.out.trans (hal.mono HB.out.size))
  have HV := Lib.hid (stay HV.out hal)
  clear hz hal hV
  have v0 : w3.cell? ⟨V, 0, none⟩ = some (.string r.id) := cell_at HV.out
  have u0 : w3.cell? ⟨U, 0, none⟩ = some (.string r.id) := cell_at HU.out
  have v1 : w3.cell? ⟨V, 1, none⟩ = some (.int .u32 r.idx) := cell_at HV.out
  have u1 : w3.cell? ⟨U, 1, none⟩ = some (.int .u32 r.idx) := cell_at HU.out
  have v2 : w3.cell? ⟨V, 2, none⟩ = some (.int .i64 r.val) := cell_at HV.out
  have u2 : w3.cell? ⟨U, 2, none⟩ = some (.int .i64 r.val) := cell_at HU.out
  have v3 : w3.cell? ⟨V, 3, none⟩ = some (.int .i64 r.br) := cell_at HV.out
  have u3 : w3.cell? ⟨U, 3, none⟩ = some (.int .i64 r.br) := cell_at HU.out
  have v4 : w3.cell? ⟨V, 4, none⟩ = some (.int .u16 r.tag) := cell_at HV.out
  have u4 : w3.cell? ⟨U, 4, none⟩ = some (.int .u16 r.tag) := cell_at HU.out
  have v5 : w3.cell? ⟨V, 5, none⟩ = some (.int .u16 r.delay) := cell_at HV.out
  have u5 : w3.cell? ⟨U, 5, none⟩ = some (.int .u16 r.delay) := cell_at HU.out
  have v6 : w3.cell? ⟨V, 6, none⟩ = some (.int .u32 r.height) := cell_at HV.out
  have u6 : w3.cell? ⟨U, 6, none⟩ = some (.int .u32 r.height) := cell_at HU.out
  have v7 : w3.cell? ⟨V, 7, none⟩ = some (.int .i64 r.dead) := cell_at HV.out
  have u7 : w3.cell? ⟨U, 7, none⟩ = some (.int .i64 r.dead) := cell_at HU.out
  have x0 : w3.cell? ⟨X, 0, none⟩ = some (.int .i64 r.kind) := cell_at HZ0.out
  have y0 : w3.cell? ⟨X + 1, 0, none⟩ = some (.int .i64 r.kind) := cell_at HZ1.out
  have x1 : w3.cell? ⟨X, 1, none⟩ = some (.int .i64 r.num) := cell_at HZ0.out
  have y1 : w3.cell? ⟨X + 1, 1, none⟩ = some (.int .i64 r.num) := cell_at HZ1.out
  have x6 : w3.cell? ⟨X, 6, none⟩ = some (.int .i64 r.index) := cell_at HZ0.out
  have y6 : w3.cell? ⟨X + 1, 6, none⟩ = some (.int .i64 r.index) := cell_at HZ1.out
  have x15 : w3.cell? ⟨X, 15, none⟩ = some (.int .i64 r.budget) := cell_at HZ0.out
  have y15 : w3.cell? ⟨X + 1, 15, none⟩ = some (.int .i64 r.budget) := cell_at HZ1.out
  have x16 : w3.cell? ⟨X, 16, none⟩ = some (.int .i64 r.start) := cell_at HZ0.out
  have y16 : w3.cell? ⟨X + 1, 16, none⟩ = some (.int .i64 r.start) := cell_at HZ1.out
  have x17 : w3.cell? ⟨X, 17, none⟩ = some (.int .i64 r.fee) := cell_at HZ0.out
  have y17 : w3.cell? ⟨X + 1, 17, none⟩ = some (.int .i64 r.fee) := cell_at HZ1.out
  go_wp2_with fail
  go_ret
  exact ⟨rfl, HB.out⟩
end Go.Proofs.Ytaooibocknemkaa
