/-
  kedgeref26.Own. Conditions: the record lies in memory.
-/
import Derived.Test.YtaooibocknemkaaGreatEt
namespace Go.Proofs.YtaooibocknemkaaGreat
open Go.RowKit Go.BigFrame
open Go.Lib (hid)
set_option linter.unusedVariables false
set_option linter.unusedSimpArgs false
def OwnIs (va vb : Value) (r : PRec) (w : World) (e : Ending) (w' : World) : Prop := ∃ v, e = .returned v ∧ (∀ (B : Nat) (w2 : World), TxOwn B w2 (.agg #[.int .u32 r.tx.ver, va, vb, .int .u32 r.tx.lock]) r.tx → RecOwn B w2 v (ownR r)) ∧ Below w.heap.size w w'
set_option maxRecDepth 100000 in
set_option maxHeartbeats 8000000 in
theorem rown_k1 (va vb : Value) (r : PRec) (w : World) (hi1 : SlAt rpIn w va r.tx.ins) (ho1 : SlAt rpOut w vb r.tx.outs) (hk1 : r.Ok) (hk : r.kind = 1) : Calls Tryz.prog 21 #[.agg #[.int .i64 r.kind, .int .i64 r.num, .int .u32 r.tx.ver, va, vb, .int .u32 r.tx.lock, .int .i64 r.index, .string r.id, .int .u32 r.idx, .int .i64 r.val, .int .i64 r.br, .int .u16 r.tag, .int .u16 r.delay, .int .u32 r.height, .int .i64 r.dead, .int .i64 r.budget, .int .i64 r.start, .int .i64 r.fee]] w (OwnIs va vb r w) := by
  have HI := hid hi1
  have HO := hid ho1
  have HK := hid (ownR_ok hk1)
  obtain ⟨ia, ic, rfl, -, -⟩ := hi1.shape
  obtain ⟨oa, oc, rfl, -, -⟩ := ho1.shape
  obtain ⟨n1, hn1⟩ : ∃ n, n = r.tx.ins.length := ⟨_, rfl⟩
  obtain ⟨n2, hn2⟩ : ∃ n, n = r.tx.outs.length := ⟨_, rfl⟩
  rw [← hn1] at HI
  rw [← hn2] at HO
  rw [← hn1, ← hn2]
  clear hn1 hn2 hi1 ho1 hk1
  have HKK := hid hk
  have c1 : (r.kind == 1) = true := by rw [beq_iff_eq]; exact hk
  have c2 : (r.kind == 2) = false := by rw [beq_eq_false_iff_ne]; omega
  have c3 : (r.kind == 3) = false := by rw [beq_eq_false_iff_ne]; omega
  have c4 : (r.kind == 4) = false := by rw [beq_eq_false_iff_ne]; omega
  clear hk
  obtain ⟨X, hX⟩ : ∃ q, q = w.heap.size := ⟨_, rfl⟩
  obtain ⟨hz2, hy0, hy1, hy2, hal⟩ := box3 w X hX #[.int .i64 r.kind, .int .i64 r.num, .int .u32 r.tx.ver, .slice ia n1 ic, .slice oa n2 oc, .int .u32 r.tx.lock, .int .i64 r.index, .string r.id, .int .u32 r.idx, .int .i64 r.val, .int .i64 r.br, .int .u16 r.tag, .int .u16 r.delay, .int .u32 r.height, .int .i64 r.dead, .int .i64 r.budget, .int .i64 r.start, .int .i64 r.fee] #[.int .i64 0, .int .i64 0, .int .u32 0, .slice none 0 0, .slice none 0 0, .int .u32 0, .int .i64 0, .string ⟨#[]⟩, .int .u32 0, .int .i64 0, .int .i64 0, .int .u16 0, .int .u16 0, .int .u32 0, .int .i64 0, .int .i64 0, .int .i64 0, .int .i64 0] #[.int .i64 0, .int .i64 0, .int .u32 0, .slice none 0 0, .slice none 0 0, .int .u32 0, .int .i64 0, .string ⟨#[]⟩, .int .u32 0, .int .i64 0, .int .i64 0, .int .u16 0, .int .u16 0, .int .u32 0, .int .i64 0, .int .i64 0, .int .i64 0, .int .i64 0] #[.int .i64 r.kind, .int .i64 r.num, .int .u32 0, .slice none 0 0, .slice none 0 0, .int .u32 0, .int .i64 0, .string ⟨#[]⟩, .int .u32 0, .int .i64 0, .int .i64 0, .int .u16 0, .int .u16 0, .int .u32 0, .int .i64 0, .int .i64 0, .int .i64 0, .int .i64 0] 35
  have HN2 := hid hz2
  have HZ0 := hid hy0
  have HZ1 := hid hy1
  have HZ2 := hid hy2
  have HB := hid hal
  have HX := hid hX
  clear hz2 hy0 hy1 hy2 hal hX
  go_enter Tryz.func21, Tryz.ntmps21
  go_upto_region 2 with (refine wpList_store_row rfl 35 (.tmp 3) (.tmp 8) rfl (X + 1 + 1) #[.int .i64 r.kind, .int .i64 r.num, .int .u32 0, .slice none 0 0, .slice none 0 0, .int .u32 0, .int .i64 0, .string ⟨#[]⟩, .int .u32 0, .int .i64 0, .int .i64 0, .int .u16 0, .int .u16 0, .int .u32 0, .int .i64 0, .int .i64 0, .int .i64 0, .int .i64 0] (by rw [HX.out]; rfl) rfl 35 _ HN2.out (by kernel_rfl) rfl (by kernel_rfl) ?_)
  rw [← HX.out]
  generalize World.setRow _ (X + 1 + 1) #[.int .i64 r.kind, .int .i64 r.num, .int .u32 0, .slice none 0 0, .slice none 0 0, .int .u32 0, .int .i64 0, .string ⟨#[]⟩, .int .u32 0, .int .i64 0, .int .i64 0, .int .u16 0, .int .u16 0, .int .u32 0, .int .i64 0, .int .i64 0, .int .i64 0, .int .i64 0] = w0 at *
  clear HN2
  have x0 : w0.cell? ⟨X, 0, none⟩ = some (.int .i64 r.kind) := cell_at HZ0.out
  have x2 : w0.cell? ⟨X, 2, none⟩ = some (.int .u32 r.tx.ver) := cell_at HZ0.out
  have x3 : w0.cell? ⟨X, 3, none⟩ = some (.slice ia n1 ic) := cell_at HZ0.out
  have x4 : w0.cell? ⟨X, 4, none⟩ = some (.slice oa n2 oc) := cell_at HZ0.out
  have x5 : w0.cell? ⟨X, 5, none⟩ = some (.int .u32 r.tx.lock) := cell_at HZ0.out
  have x6 : w0.cell? ⟨X, 6, none⟩ = some (.int .i64 r.index) := cell_at HZ0.out
  have y2 : w0.cell? ⟨X + 1 + 1, 2, none⟩ = some (.int .u32 0) := cell_at HZ2.out
  have f2 : w0.frozen? ⟨X + 1 + 1, 2, none⟩ = false := free_at HZ2.out
  have y3 : w0.cell? ⟨X + 1 + 1, 3, none⟩ = some (.slice none 0 0) := cell_at HZ2.out
  have f3 : w0.frozen? ⟨X + 1 + 1, 3, none⟩ = false := free_at HZ2.out
  have y4 : w0.cell? ⟨X + 1 + 1, 4, none⟩ = some (.slice none 0 0) := cell_at HZ2.out
  have f4 : w0.frozen? ⟨X + 1 + 1, 4, none⟩ = false := free_at HZ2.out
  have y5 : w0.cell? ⟨X + 1 + 1, 5, none⟩ = some (.int .u32 0) := cell_at HZ2.out
  have f5 : w0.frozen? ⟨X + 1 + 1, 5, none⟩ = false := free_at HZ2.out
  have y6 : w0.cell? ⟨X + 1 + 1, 6, none⟩ = some (.int .i64 0) := cell_at HZ2.out
  have f6 : w0.frozen? ⟨X + 1 + 1, 6, none⟩ = false := free_at HZ2.out
  go_upto_region 5 with fail
  change Code.wp _ _ _ _ (stores w0 (X + 1 + 1) [(2, .int .u32 r.tx.ver), (3, .slice ia n1 ic), (4, .slice oa n2 oc), (5, .int .u32 r.tx.lock), (6, .int .i64 r.index)])
  obtain ⟨s1, s2, s3⟩ := stores_spec [(2, .int .u32 r.tx.ver), (3, .slice ia n1 ic), (4, .slice oa n2 oc), (5, .int .u32 r.tx.lock), (6, .int .i64 r.index)] HZ2.out
  have HZ0 := hid ((s2 X (by omega)).trans HZ0.out)
  have HZ1 := hid ((s2 (X + 1) (by omega)).trans HZ1.out)
  have HZ2 := hid (show (stores w0 (X + 1 + 1) [(2, .int .u32 r.tx.ver), (3, .slice ia n1 ic), (4, .slice oa n2 oc), (5, .int .u32 r.tx.lock), (6, .int .i64 r.index)]).heap[X + 1 + 1]? = some (.cells #[.int .i64 r.kind, .int .i64 r.num, .int .u32 r.tx.ver, .slice ia n1 ic, .slice oa n2 oc, .int .u32 r.tx.lock, .int .i64 r.index, .string ⟨#[]⟩, .int .u32 0, .int .i64 0, .int .i64 0, .int .u16 0, .int .u16 0, .int .u32 0, .int .i64 0, .int .i64 0, .int .i64 0, .int .i64 0] 35 (0, 0)) from s1)
  have HB := hid (HB.out.trans (s3 w.heap.size (by have := HX.out; omega)))
  clear s1 s2 s3 x0 x2 x3 x4 x5 x6 y2 f2 y3 f3 y4 f4 y5 f5 y6 f6
  generalize stores w0 (X + 1 + 1) [(2, .int .u32 r.tx.ver), (3, .slice ia n1 ic), (4, .slice oa n2 oc), (5, .int .u32 r.tx.lock), (6, .int .i64 r.index)] = w1 at *
  have x0 : w1.cell? ⟨X, 0, none⟩ = some (.int .i64 r.kind) := cell_at HZ0.out
  have x10 : w1.cell? ⟨X, 10, none⟩ = some (.int .i64 r.br) := cell_at HZ0.out
  have x11 : w1.cell? ⟨X, 11, none⟩ = some (.int .u16 r.tag) := cell_at HZ0.out
  have x12 : w1.cell? ⟨X, 12, none⟩ = some (.int .u16 r.delay) := cell_at HZ0.out
  have x13 : w1.cell? ⟨X, 13, none⟩ = some (.int .u32 r.height) := cell_at HZ0.out
  have y10 : w1.cell? ⟨X + 1 + 1, 10, none⟩ = some (.int .i64 0) := cell_at HZ2.out
  have f10 : w1.frozen? ⟨X + 1 + 1, 10, none⟩ = false := free_at HZ2.out
  have y11 : w1.cell? ⟨X + 1 + 1, 11, none⟩ = some (.int .u16 0) := cell_at HZ2.out
  have f11 : w1.frozen? ⟨X + 1 + 1, 11, none⟩ = false := free_at HZ2.out
  have y12 : w1.cell? ⟨X + 1 + 1, 12, none⟩ = some (.int .u16 0) := cell_at HZ2.out
  have f12 : w1.frozen? ⟨X + 1 + 1, 12, none⟩ = false := free_at HZ2.out
  have y13 : w1.cell? ⟨X + 1 + 1, 13, none⟩ = some (.int .u32 0) := cell_at HZ2.out
  have f13 : w1.frozen? ⟨X + 1 + 1, 13, none⟩ = false := free_at HZ2.out
  go_upto_region 12 with fail
  change Code.wp _ _ _ _ (stores w1 (X + 1 + 1) [(10, .int .i64 r.br), (11, .int .u16 r.tag), (12, .int .u16 r.delay), (13, .int .u32 r.height)])
  obtain ⟨s1, s2, s3⟩ := stores_spec [(10, .int .i64 r.br), (11, .int .u16 r.tag), (12, .int .u16 r.delay), (13, .int .u32 r.height)] HZ2.out
  have HZ0 := hid ((s2 X (by omega)).trans HZ0.out)
  have HZ1 := hid ((s2 (X + 1) (by omega)).trans HZ1.out)
  have HZ2 := hid (show (stores w1 (X + 1 + 1) [(10, .int .i64 r.br), (11, .int .u16 r.tag), (12, .int .u16 r.delay), (13, .int .u32 r.height)]).heap[X + 1 + 1]? = some (.cells #[.int .i64 r.kind, .int .i64 r.num, .int .u32 r.tx.ver, .slice ia n1 ic, .slice oa n2 oc, .int .u32 r.tx.lock, .int .i64 r.index, .string ⟨#[]⟩, .int .u32 0, .int .i64 0, .int .i64 r.br, .int .u16 r.tag, .int .u16 r.delay, .int .u32 r.height, .int .i64 0, .int .i64 0, .int .i64 0, .int .i64 0] 35 (0, 0)) from s1)
  have HB := hid (HB.out.trans (s3 w.heap.size (by have := HX.out; omega)))
  clear s1 s2 s3 x0 x10 x11 x12 x13 y10 f10 y11 f11 y12 f12 y13 f13
  generalize stores w1 (X + 1 + 1) [(10, .int .i64 r.br), (11, .int .u16 r.tag), (12, .int .u16 r.delay), (13, .int .u32 r.height)] = w2 at *
  have x0 : w2.cell? ⟨X, 0, none⟩ = some (.int .i64 r.kind) := cell_at HZ0.out
  have x14 : w2.cell? ⟨X, 14, none⟩ = some (.int .i64 r.dead) := cell_at HZ0.out
  have x15 : w2.cell? ⟨X, 15, none⟩ = some (.int .i64 r.budget) := cell_at HZ0.out
  have x16 : w2.cell? ⟨X, 16, none⟩ = some (.int .i64 r.start) := cell_at HZ0.out
  have y14 : w2.cell? ⟨X + 1 + 1, 14, none⟩ = some (.int .i64 0) := cell_at HZ2.out
  have f14 : w2.frozen? ⟨X + 1 + 1, 14, none⟩ = false := free_at HZ2.out
  have y15 : w2.cell? ⟨X + 1 + 1, 15, none⟩ = some (.int .i64 0) := cell_at HZ2.out
  have f15 : w2.frozen? ⟨X + 1 + 1, 15, none⟩ = false := free_at HZ2.out
  have y16 : w2.cell? ⟨X + 1 + 1, 16, none⟩ = some (.int .i64 0) := cell_at HZ2.out
  have f16 : w2.frozen? ⟨X + 1 + 1, 16, none⟩ = false := free_at HZ2.out
  go_upto_region 18 with fail
  change Code.wp _ _ _ _ (stores w2 (X + 1 + 1) [(14, .int .i64 r.dead), (15, .int .i64 r.budget), (16, .int .i64 r.start)])
  obtain ⟨s1, s2, s3⟩ := stores_spec [(14, .int .i64 r.dead), (15, .int .i64 r.budget), (16, .int .i64 r.start)] HZ2.out
  have HZ0 := hid ((s2 X (by omega)).trans HZ0.out)
  have HZ1 := hid ((s2 (X + 1) (by omega)).trans HZ1.out)
  have HZ2 := hid (show (stores w2 (X + 1 + 1) [(14, .int .i64 r.dead), (15, .int .i64 r.budget), (16, .int .i64 r.start)]).heap[X + 1 + 1]? = some (.cells #[.int .i64 r.kind, .int .i64 r.num, .int .u32 r.tx.ver, .slice ia n1 ic, .slice oa n2 oc, .int .u32 r.tx.lock, .int .i64 r.index, .string ⟨#[]⟩, .int .u32 0, .int .i64 0, .int .i64 r.br, .int .u16 r.tag, .int .u16 r.delay, .int .u32 r.height, .int .i64 r.dead, .int .i64 r.budget, .int .i64 r.start, .int .i64 0] 35 (0, 0)) from s1)
  have HB := hid (HB.out.trans (s3 w.heap.size (by have := HX.out; omega)))
  clear s1 s2 s3 x0 x14 x15 x16 y14 f14 y15 f15 y16 f16
  generalize stores w2 (X + 1 + 1) [(14, .int .i64 r.dead), (15, .int .i64 r.budget), (16, .int .i64 r.start)] = w3 at *
  go_wp2_with (first | (refine wpList_load_row rfl 35 (.tmp 3) rfl (X + 1 + 1) rfl 35 _ (0, 0) _ HZ2.out Tryz.underlying35 rfl (by kernel_rfl) ?_) | (refine wpList_store_row rfl 35 (.tmp 2) (.tmp 82) rfl (X + 1) #[.int .i64 r.kind, .int .i64 r.num, .int .u32 r.tx.ver, .slice ia n1 ic, .slice oa n2 oc, .int .u32 r.tx.lock, .int .i64 r.index, .string ⟨#[]⟩, .int .u32 0, .int .i64 0, .int .i64 r.br, .int .u16 r.tag, .int .u16 r.delay, .int .u32 r.height, .int .i64 r.dead, .int .i64 r.budget, .int .i64 r.start, .int .i64 0] rfl rfl 35 _ HZ1.out (by kernel_rfl) rfl (by kernel_rfl) ?_))
  refine bodyPost_ret (v := .agg #[.int .i64 r.kind, .int .i64 r.num, .int .u32 r.tx.ver, .slice ia n1 ic, .slice oa n2 oc, .int .u32 r.tx.lock, .int .i64 r.index, .string ⟨#[]⟩, .int .u32 0, .int .i64 0, .int .i64 r.br, .int .u16 r.tag, .int .u16 r.delay, .int .u32 r.height, .int .i64 r.dead, .int .i64 r.budget, .int .i64 r.start, .int .i64 0]) (results_cell1 (P := Tryz.prog) (p := 2) (ty := 35) Tryz.results21 _ _ (X + 1) 35 #[.int .i64 r.kind, .int .i64 r.num, .int .u32 r.tx.ver, .slice ia n1 ic, .slice oa n2 oc, .int .u32 r.tx.lock, .int .i64 r.index, .string ⟨#[]⟩, .int .u32 0, .int .i64 0, .int .i64 r.br, .int .u16 r.tag, .int .u16 r.delay, .int .u32 r.height, .int .i64 r.dead, .int .i64 r.budget, .int .i64 r.start, .int .i64 0] (0, 0) _ rfl (setRow_heap _ (X + 1) _ _ _ _ HZ1.out) Tryz.underlying35 rfl (by kernel_rfl)) rfl ?_
  have HB := hid (show Below w.heap.size w (w3.setRow (X + 1) #[.int .i64 r.kind, .int .i64 r.num, .int .u32 r.tx.ver, .slice ia n1 ic, .slice oa n2 oc, .int .u32 r.tx.lock, .int .i64 r.index, .string ⟨#[]⟩, .int .u32 0, .int .i64 0, .int .i64 r.br, .int .u16 r.tag, .int .u16 r.delay, .int .u32 r.height, .int .i64 r.dead, .int .i64 r.budget, .int .i64 r.start, .int .i64 0]) from below_rowE HB.out (by have := HX.out; omega) _)
  have HOW := hid (show ownR r = _ from by unfold ownR; rw [if_pos HKK.out])
  have hok := HK.out
  unfold OwnIs
  rw [HOW.out] at hok ⊢
  exact ⟨_, rfl, fun B w2 g => ⟨_, _, rfl, g, hok⟩, HB.out⟩
set_option maxRecDepth 100000 in
set_option maxHeartbeats 8000000 in
theorem rown_k2 (va vb : Value) (r : PRec) (w : World) (hi1 : SlAt rpIn w va r.tx.ins) (ho1 : SlAt rpOut w vb r.tx.outs) (hk1 : r.Ok) (hk : r.kind = 2) : Calls Tryz.prog 21 #[.agg #[.int .i64 r.kind, .int .i64 r.num, .int .u32 r.tx.ver, va, vb, .int .u32 r.tx.lock, .int .i64 r.index, .string r.id, .int .u32 r.idx, .int .i64 r.val, .int .i64 r.br, .int .u16 r.tag, .int .u16 r.delay, .int .u32 r.height, .int .i64 r.dead, .int .i64 r.budget, .int .i64 r.start, .int .i64 r.fee]] w (OwnIs va vb r w) := by
  have HI := hid hi1
  have HO := hid ho1
  have HK := hid (ownR_ok hk1)
  obtain ⟨ia, ic, rfl, -, -⟩ := hi1.shape
  obtain ⟨oa, oc, rfl, -, -⟩ := ho1.shape
  obtain ⟨n1, hn1⟩ : ∃ n, n = r.tx.ins.length := ⟨_, rfl⟩
  obtain ⟨n2, hn2⟩ : ∃ n, n = r.tx.outs.length := ⟨_, rfl⟩
  rw [← hn1] at HI
  rw [← hn2] at HO
  rw [← hn1, ← hn2]
  clear hn1 hn2 hi1 ho1 hk1
  have HKK := hid hk
  have c1 : (r.kind == 1) = false := by rw [beq_eq_false_iff_ne]; omega
  have c2 : (r.kind == 2) = true := by rw [beq_iff_eq]; exact hk
  have c3 : (r.kind == 3) = false := by rw [beq_eq_false_iff_ne]; omega
  have c4 : (r.kind == 4) = false := by rw [beq_eq_false_iff_ne]; omega
  clear hk
  obtain ⟨X, hX⟩ : ∃ q, q = w.heap.size := ⟨_, rfl⟩
  obtain ⟨hz2, hy0, hy1, hy2, hal⟩ := box3 w X hX #[.int .i64 r.kind, .int .i64 r.num, .int .u32 r.tx.ver, .slice ia n1 ic, .slice oa n2 oc, .int .u32 r.tx.lock, .int .i64 r.index, .string r.id, .int .u32 r.idx, .int .i64 r.val, .int .i64 r.br, .int .u16 r.tag, .int .u16 r.delay, .int .u32 r.height, .int .i64 r.dead, .int .i64 r.budget, .int .i64 r.start, .int .i64 r.fee] #[.int .i64 0, .int .i64 0, .int .u32 0, .slice none 0 0, .slice none 0 0, .int .u32 0, .int .i64 0, .string ⟨#[]⟩, .int .u32 0, .int .i64 0, .int .i64 0, .int .u16 0, .int .u16 0, .int .u32 0, .int .i64 0, .int .i64 0, .int .i64 0, .int .i64 0] #[.int .i64 0, .int .i64 0, .int .u32 0, .slice none 0 0, .slice none 0 0, .int .u32 0, .int .i64 0, .string ⟨#[]⟩, .int .u32 0, .int .i64 0, .int .i64 0, .int .u16 0, .int .u16 0, .int .u32 0, .int .i64 0, .int .i64 0, .int .i64 0, .int .i64 0] #[.int .i64 r.kind, .int .i64 r.num, .int .u32 0, .slice none 0 0, .slice none 0 0, .int .u32 0, .int .i64 0, .string ⟨#[]⟩, .int .u32 0, .int .i64 0, .int .i64 0, .int .u16 0, .int .u16 0, .int .u32 0, .int .i64 0, .int .i64 0, .int .i64 0, .int .i64 0] 35
  have HN2 := hid hz2
  have HZ0 := hid hy0
  have HZ1 := hid hy1
  have HZ2 := hid hy2
  have HB := hid hal
  have HX := hid hX
  clear hz2 hy0 hy1 hy2 hal hX
  go_enter Tryz.func21, Tryz.ntmps21
  go_upto_region 2 with (refine wpList_store_row rfl 35 (.tmp 3) (.tmp 8) rfl (X + 1 + 1) #[.int .i64 r.kind, .int .i64 r.num, .int .u32 0, .slice none 0 0, .slice none 0 0, .int .u32 0, .int .i64 0, .string ⟨#[]⟩, .int .u32 0, .int .i64 0, .int .i64 0, .int .u16 0, .int .u16 0, .int .u32 0, .int .i64 0, .int .i64 0, .int .i64 0, .int .i64 0] (by rw [HX.out]; rfl) rfl 35 _ HN2.out (by kernel_rfl) rfl (by kernel_rfl) ?_)
  rw [← HX.out]
  generalize World.setRow _ (X + 1 + 1) #[.int .i64 r.kind, .int .i64 r.num, .int .u32 0, .slice none 0 0, .slice none 0 0, .int .u32 0, .int .i64 0, .string ⟨#[]⟩, .int .u32 0, .int .i64 0, .int .i64 0, .int .u16 0, .int .u16 0, .int .u32 0, .int .i64 0, .int .i64 0, .int .i64 0, .int .i64 0] = w0 at *
  clear HN2
  have x0 : w0.cell? ⟨X, 0, none⟩ = some (.int .i64 r.kind) := cell_at HZ0.out
  have x7 : w0.cell? ⟨X, 7, none⟩ = some (.string r.id) := cell_at HZ0.out
  have x8 : w0.cell? ⟨X, 8, none⟩ = some (.int .u32 r.idx) := cell_at HZ0.out
  have x9 : w0.cell? ⟨X, 9, none⟩ = some (.int .i64 r.val) := cell_at HZ0.out
  have y9 : w0.cell? ⟨X + 1 + 1, 9, none⟩ = some (.int .i64 0) := cell_at HZ2.out
  have f9 : w0.frozen? ⟨X + 1 + 1, 9, none⟩ = false := free_at HZ2.out
  have y7 : w0.cell? ⟨X + 1 + 1, 7, none⟩ = some (.string ⟨#[]⟩) := cell_at HZ2.out
  have f7 : w0.frozen? ⟨X + 1 + 1, 7, none⟩ = false := free_at HZ2.out
  have y8 : w0.cell? ⟨X + 1 + 1, 8, none⟩ = some (.int .u32 0) := cell_at HZ2.out
  have f8 : w0.frozen? ⟨X + 1 + 1, 8, none⟩ = false := free_at HZ2.out
  go_upto_region 9 with fail
  change Code.wp _ _ _ _ (stores w0 (X + 1 + 1) [(9, .int .i64 r.val), (7, .string r.id), (8, .int .u32 r.idx)])
  obtain ⟨s1, s2, s3⟩ := stores_spec [(9, .int .i64 r.val), (7, .string r.id), (8, .int .u32 r.idx)] HZ2.out
  have HZ0 := hid ((s2 X (by omega)).trans HZ0.out)
  have HZ1 := hid ((s2 (X + 1) (by omega)).trans HZ1.out)
  have HZ2 := hid (show (stores w0 (X + 1 + 1) [(9, .int .i64 r.val), (7, .string r.id), (8, .int .u32 r.idx)]).heap[X + 1 + 1]? = some (.cells #[.int .i64 r.kind, .int .i64 r.num, .int .u32 0, .slice none 0 0, .slice none 0 0, .int .u32 0, .int .i64 0, .string r.id, .int .u32 r.idx, .int .i64 r.val, .int .i64 0, .int .u16 0, .int .u16 0, .int .u32 0, .int .i64 0, .int .i64 0, .int .i64 0, .int .i64 0] 35 (0, 0)) from s1)
  have HB := hid (HB.out.trans (s3 w.heap.size (by have := HX.out; omega)))
  clear s1 s2 s3 x0 x7 x8 x9 y9 f9 y7 f7 y8 f8
  generalize stores w0 (X + 1 + 1) [(9, .int .i64 r.val), (7, .string r.id), (8, .int .u32 r.idx)] = w1 at *
  have x0 : w1.cell? ⟨X, 0, none⟩ = some (.int .i64 r.kind) := cell_at HZ0.out
  have x10 : w1.cell? ⟨X, 10, none⟩ = some (.int .i64 r.br) := cell_at HZ0.out
  have x11 : w1.cell? ⟨X, 11, none⟩ = some (.int .u16 r.tag) := cell_at HZ0.out
  have x12 : w1.cell? ⟨X, 12, none⟩ = some (.int .u16 r.delay) := cell_at HZ0.out
  have x13 : w1.cell? ⟨X, 13, none⟩ = some (.int .u32 r.height) := cell_at HZ0.out
  have y10 : w1.cell? ⟨X + 1 + 1, 10, none⟩ = some (.int .i64 0) := cell_at HZ2.out
  have f10 : w1.frozen? ⟨X + 1 + 1, 10, none⟩ = false := free_at HZ2.out
  have y11 : w1.cell? ⟨X + 1 + 1, 11, none⟩ = some (.int .u16 0) := cell_at HZ2.out
  have f11 : w1.frozen? ⟨X + 1 + 1, 11, none⟩ = false := free_at HZ2.out
  have y12 : w1.cell? ⟨X + 1 + 1, 12, none⟩ = some (.int .u16 0) := cell_at HZ2.out
  have f12 : w1.frozen? ⟨X + 1 + 1, 12, none⟩ = false := free_at HZ2.out
  have y13 : w1.cell? ⟨X + 1 + 1, 13, none⟩ = some (.int .u32 0) := cell_at HZ2.out
  have f13 : w1.frozen? ⟨X + 1 + 1, 13, none⟩ = false := free_at HZ2.out
  go_upto_region 12 with fail
  change Code.wp _ _ _ _ (stores w1 (X + 1 + 1) [(10, .int .i64 r.br), (11, .int .u16 r.tag), (12, .int .u16 r.delay), (13, .int .u32 r.height)])
  obtain ⟨s1, s2, s3⟩ := stores_spec [(10, .int .i64 r.br), (11, .int .u16 r.tag), (12, .int .u16 r.delay), (13, .int .u32 r.height)] HZ2.out
  have HZ0 := hid ((s2 X (by omega)).trans HZ0.out)
  have HZ1 := hid ((s2 (X + 1) (by omega)).trans HZ1.out)
  have HZ2 := hid (show (stores w1 (X + 1 + 1) [(10, .int .i64 r.br), (11, .int .u16 r.tag), (12, .int .u16 r.delay), (13, .int .u32 r.height)]).heap[X + 1 + 1]? = some (.cells #[.int .i64 r.kind, .int .i64 r.num, .int .u32 0, .slice none 0 0, .slice none 0 0, .int .u32 0, .int .i64 0, .string r.id, .int .u32 r.idx, .int .i64 r.val, .int .i64 r.br, .int .u16 r.tag, .int .u16 r.delay, .int .u32 r.height, .int .i64 0, .int .i64 0, .int .i64 0, .int .i64 0] 35 (0, 0)) from s1)
  have HB := hid (HB.out.trans (s3 w.heap.size (by have := HX.out; omega)))
  clear s1 s2 s3 x0 x10 x11 x12 x13 y10 f10 y11 f11 y12 f12 y13 f13
  generalize stores w1 (X + 1 + 1) [(10, .int .i64 r.br), (11, .int .u16 r.tag), (12, .int .u16 r.delay), (13, .int .u32 r.height)] = w2 at *
  have x0 : w2.cell? ⟨X, 0, none⟩ = some (.int .i64 r.kind) := cell_at HZ0.out
  have x14 : w2.cell? ⟨X, 14, none⟩ = some (.int .i64 r.dead) := cell_at HZ0.out
  have x15 : w2.cell? ⟨X, 15, none⟩ = some (.int .i64 r.budget) := cell_at HZ0.out
  have x16 : w2.cell? ⟨X, 16, none⟩ = some (.int .i64 r.start) := cell_at HZ0.out
  have y14 : w2.cell? ⟨X + 1 + 1, 14, none⟩ = some (.int .i64 0) := cell_at HZ2.out
  have f14 : w2.frozen? ⟨X + 1 + 1, 14, none⟩ = false := free_at HZ2.out
  have y15 : w2.cell? ⟨X + 1 + 1, 15, none⟩ = some (.int .i64 0) := cell_at HZ2.out
  have f15 : w2.frozen? ⟨X + 1 + 1, 15, none⟩ = false := free_at HZ2.out
  have y16 : w2.cell? ⟨X + 1 + 1, 16, none⟩ = some (.int .i64 0) := cell_at HZ2.out
  have f16 : w2.frozen? ⟨X + 1 + 1, 16, none⟩ = false := free_at HZ2.out
  go_upto_region 18 with fail
  change Code.wp _ _ _ _ (stores w2 (X + 1 + 1) [(14, .int .i64 r.dead), (15, .int .i64 r.budget), (16, .int .i64 r.start)])
  obtain ⟨s1, s2, s3⟩ := stores_spec [(14, .int .i64 r.dead), (15, .int .i64 r.budget), (16, .int .i64 r.start)] HZ2.out
  have HZ0 := hid ((s2 X (by omega)).trans HZ0.out)
  have HZ1 := hid ((s2 (X + 1) (by omega)).trans HZ1.out)
  have HZ2 := hid (show (stores w2 (X + 1 + 1) [(14, .int .i64 r.dead), (15, .int .i64 r.budget), (16, .int .i64 r.start)]).heap[X + 1 + 1]? = some (.cells #[.int .i64 r.kind, .int .i64 r.num, .int .u32 0, .slice none 0 0, .slice none 0 0, .int .u32 0, .int .i64 0, .string r.id, .int .u32 r.idx, .int .i64 r.val, .int .i64 r.br, .int .u16 r.tag, .int .u16 r.delay, .int .u32 r.height, .int .i64 r.dead, .int .i64 r.budget, .int .i64 r.start, .int .i64 0] 35 (0, 0)) from s1)
  have HB := hid (HB.out.trans (s3 w.heap.size (by have := HX.out; omega)))
  clear s1 s2 s3 x0 x14 x15 x16 y14 f14 y15 f15 y16 f16
  generalize stores w2 (X + 1 + 1) [(14, .int .i64 r.dead), (15, .int .i64 r.budget), (16, .int .i64 r.start)] = w3 at *
  go_wp2_with (first | (refine wpList_load_row rfl 35 (.tmp 3) rfl (X + 1 + 1) rfl 35 _ (0, 0) _ HZ2.out Tryz.underlying35 rfl (by kernel_rfl) ?_) | (refine wpList_store_row rfl 35 (.tmp 2) (.tmp 82) rfl (X + 1) #[.int .i64 r.kind, .int .i64 r.num, .int .u32 0, .slice none 0 0, .slice none 0 0, .int .u32 0, .int .i64 0, .string r.id, .int .u32 r.idx, .int .i64 r.val, .int .i64 r.br, .int .u16 r.tag, .int .u16 r.delay, .int .u32 r.height, .int .i64 r.dead, .int .i64 r.budget, .int .i64 r.start, .int .i64 0] rfl rfl 35 _ HZ1.out (by kernel_rfl) rfl (by kernel_rfl) ?_))
  refine bodyPost_ret (v := .agg #[.int .i64 r.kind, .int .i64 r.num, .int .u32 0, .slice none 0 0, .slice none 0 0, .int .u32 0, .int .i64 0, .string r.id, .int .u32 r.idx, .int .i64 r.val, .int .i64 r.br, .int .u16 r.tag, .int .u16 r.delay, .int .u32 r.height, .int .i64 r.dead, .int .i64 r.budget, .int .i64 r.start, .int .i64 0]) (results_cell1 (P := Tryz.prog) (p := 2) (ty := 35) Tryz.results21 _ _ (X + 1) 35 #[.int .i64 r.kind, .int .i64 r.num, .int .u32 0, .slice none 0 0, .slice none 0 0, .int .u32 0, .int .i64 0, .string r.id, .int .u32 r.idx, .int .i64 r.val, .int .i64 r.br, .int .u16 r.tag, .int .u16 r.delay, .int .u32 r.height, .int .i64 r.dead, .int .i64 r.budget, .int .i64 r.start, .int .i64 0] (0, 0) _ rfl (setRow_heap _ (X + 1) _ _ _ _ HZ1.out) Tryz.underlying35 rfl (by kernel_rfl)) rfl ?_
  have HB := hid (show Below w.heap.size w (w3.setRow (X + 1) #[.int .i64 r.kind, .int .i64 r.num, .int .u32 0, .slice none 0 0, .slice none 0 0, .int .u32 0, .int .i64 0, .string r.id, .int .u32 r.idx, .int .i64 r.val, .int .i64 r.br, .int .u16 r.tag, .int .u16 r.delay, .int .u32 r.height, .int .i64 r.dead, .int .i64 r.budget, .int .i64 r.start, .int .i64 0]) from below_rowE HB.out (by have := HX.out; omega) _)
  have HOW := hid (show ownR r = _ from by unfold ownR; rw [if_neg (by have := HKK.out; omega), if_pos HKK.out])
  have hok := HK.out
  unfold OwnIs
  rw [HOW.out] at hok ⊢
  exact ⟨_, rfl, fun B w2 _ => ⟨_, _, rfl, noTxQ_own B w2, hok⟩, HB.out⟩
set_option maxRecDepth 100000 in
set_option maxHeartbeats 8000000 in
theorem rown_k3 (va vb : Value) (r : PRec) (w : World) (hi1 : SlAt rpIn w va r.tx.ins) (ho1 : SlAt rpOut w vb r.tx.outs) (hk1 : r.Ok) (hk : r.kind = 3) : Calls Tryz.prog 21 #[.agg #[.int .i64 r.kind, .int .i64 r.num, .int .u32 r.tx.ver, va, vb, .int .u32 r.tx.lock, .int .i64 r.index, .string r.id, .int .u32 r.idx, .int .i64 r.val, .int .i64 r.br, .int .u16 r.tag, .int .u16 r.delay, .int .u32 r.height, .int .i64 r.dead, .int .i64 r.budget, .int .i64 r.start, .int .i64 r.fee]] w (OwnIs va vb r w) := by
  have HI := hid hi1
  have HO := hid ho1
  have HK := hid (ownR_ok hk1)
  obtain ⟨ia, ic, rfl, -, -⟩ := hi1.shape
  obtain ⟨oa, oc, rfl, -, -⟩ := ho1.shape
  obtain ⟨n1, hn1⟩ : ∃ n, n = r.tx.ins.length := ⟨_, rfl⟩
  obtain ⟨n2, hn2⟩ : ∃ n, n = r.tx.outs.length := ⟨_, rfl⟩
  rw [← hn1] at HI
  rw [← hn2] at HO
  rw [← hn1, ← hn2]
  clear hn1 hn2 hi1 ho1 hk1
  have HKK := hid hk
  have c1 : (r.kind == 1) = false := by rw [beq_eq_false_iff_ne]; omega
  have c2 : (r.kind == 2) = false := by rw [beq_eq_false_iff_ne]; omega
  have c3 : (r.kind == 3) = true := by rw [beq_iff_eq]; exact hk
  have c4 : (r.kind == 4) = false := by rw [beq_eq_false_iff_ne]; omega
  clear hk
  obtain ⟨X, hX⟩ : ∃ q, q = w.heap.size := ⟨_, rfl⟩
  obtain ⟨hz2, hy0, hy1, hy2, hal⟩ := box3 w X hX #[.int .i64 r.kind, .int .i64 r.num, .int .u32 r.tx.ver, .slice ia n1 ic, .slice oa n2 oc, .int .u32 r.tx.lock, .int .i64 r.index, .string r.id, .int .u32 r.idx, .int .i64 r.val, .int .i64 r.br, .int .u16 r.tag, .int .u16 r.delay, .int .u32 r.height, .int .i64 r.dead, .int .i64 r.budget, .int .i64 r.start, .int .i64 r.fee] #[.int .i64 0, .int .i64 0, .int .u32 0, .slice none 0 0, .slice none 0 0, .int .u32 0, .int .i64 0, .string ⟨#[]⟩, .int .u32 0, .int .i64 0, .int .i64 0, .int .u16 0, .int .u16 0, .int .u32 0, .int .i64 0, .int .i64 0, .int .i64 0, .int .i64 0] #[.int .i64 0, .int .i64 0, .int .u32 0, .slice none 0 0, .slice none 0 0, .int .u32 0, .int .i64 0, .string ⟨#[]⟩, .int .u32 0, .int .i64 0, .int .i64 0, .int .u16 0, .int .u16 0, .int .u32 0, .int .i64 0, .int .i64 0, .int .i64 0, .int .i64 0] #[.int .i64 r.kind, .int .i64 r.num, .int .u32 0, .slice none 0 0, .slice none 0 0, .int .u32 0, .int .i64 0, .string ⟨#[]⟩, .int .u32 0, .int .i64 0, .int .i64 0, .int .u16 0, .int .u16 0, .int .u32 0, .int .i64 0, .int .i64 0, .int .i64 0, .int .i64 0] 35
  have HN2 := hid hz2
  have HZ0 := hid hy0
  have HZ1 := hid hy1
  have HZ2 := hid hy2
  have HB := hid hal
  have HX := hid hX
  clear hz2 hy0 hy1 hy2 hal hX
  go_enter Tryz.func21, Tryz.ntmps21
  go_upto_region 2 with (refine wpList_store_row rfl 35 (.tmp 3) (.tmp 8) rfl (X + 1 + 1) #[.int .i64 r.kind, .int .i64 r.num, .int .u32 0, .slice none 0 0, .slice none 0 0, .int .u32 0, .int .i64 0, .string ⟨#[]⟩, .int .u32 0, .int .i64 0, .int .i64 0, .int .u16 0, .int .u16 0, .int .u32 0, .int .i64 0, .int .i64 0, .int .i64 0, .int .i64 0] (by rw [HX.out]; rfl) rfl 35 _ HN2.out (by kernel_rfl) rfl (by kernel_rfl) ?_)
  rw [← HX.out]
  generalize World.setRow _ (X + 1 + 1) #[.int .i64 r.kind, .int .i64 r.num, .int .u32 0, .slice none 0 0, .slice none 0 0, .int .u32 0, .int .i64 0, .string ⟨#[]⟩, .int .u32 0, .int .i64 0, .int .i64 0, .int .u16 0, .int .u16 0, .int .u32 0, .int .i64 0, .int .i64 0, .int .i64 0, .int .i64 0] = w0 at *
  clear HN2
  have x0 : w0.cell? ⟨X, 0, none⟩ = some (.int .i64 r.kind) := cell_at HZ0.out
  have x7 : w0.cell? ⟨X, 7, none⟩ = some (.string r.id) := cell_at HZ0.out
  have x8 : w0.cell? ⟨X, 8, none⟩ = some (.int .u32 r.idx) := cell_at HZ0.out
  have y7 : w0.cell? ⟨X + 1 + 1, 7, none⟩ = some (.string ⟨#[]⟩) := cell_at HZ2.out
  have f7 : w0.frozen? ⟨X + 1 + 1, 7, none⟩ = false := free_at HZ2.out
  have y8 : w0.cell? ⟨X + 1 + 1, 8, none⟩ = some (.int .u32 0) := cell_at HZ2.out
  have f8 : w0.frozen? ⟨X + 1 + 1, 8, none⟩ = false := free_at HZ2.out
  go_upto_region 18 with fail
  change Code.wp _ _ _ _ (stores w0 (X + 1 + 1) [(7, .string r.id), (8, .int .u32 r.idx)])
  obtain ⟨s1, s2, s3⟩ := stores_spec [(7, .string r.id), (8, .int .u32 r.idx)] HZ2.out
  have HZ0 := hid ((s2 X (by omega)).trans HZ0.out)
  have HZ1 := hid ((s2 (X + 1) (by omega)).trans HZ1.out)
  have HZ2 := hid (show (stores w0 (X + 1 + 1) [(7, .string r.id), (8, .int .u32 r.idx)]).heap[X + 1 + 1]? = some (.cells #[.int .i64 r.kind, .int .i64 r.num, .int .u32 0, .slice none 0 0, .slice none 0 0, .int .u32 0, .int .i64 0, .string r.id, .int .u32 r.idx, .int .i64 0, .int .i64 0, .int .u16 0, .int .u16 0, .int .u32 0, .int .i64 0, .int .i64 0, .int .i64 0, .int .i64 0] 35 (0, 0)) from s1)
  have HB := hid (HB.out.trans (s3 w.heap.size (by have := HX.out; omega)))
  clear s1 s2 s3 x0 x7 x8 y7 f7 y8 f8
  generalize stores w0 (X + 1 + 1) [(7, .string r.id), (8, .int .u32 r.idx)] = w1 at *
  go_wp2_with (first | (refine wpList_load_row rfl 35 (.tmp 3) rfl (X + 1 + 1) rfl 35 _ (0, 0) _ HZ2.out Tryz.underlying35 rfl (by kernel_rfl) ?_) | (refine wpList_store_row rfl 35 (.tmp 2) (.tmp 82) rfl (X + 1) #[.int .i64 r.kind, .int .i64 r.num, .int .u32 0, .slice none 0 0, .slice none 0 0, .int .u32 0, .int .i64 0, .string r.id, .int .u32 r.idx, .int .i64 0, .int .i64 0, .int .u16 0, .int .u16 0, .int .u32 0, .int .i64 0, .int .i64 0, .int .i64 0, .int .i64 0] rfl rfl 35 _ HZ1.out (by kernel_rfl) rfl (by kernel_rfl) ?_))
  refine bodyPost_ret (v := .agg #[.int .i64 r.kind, .int .i64 r.num, .int .u32 0, .slice none 0 0, .slice none 0 0, .int .u32 0, .int .i64 0, .string r.id, .int .u32 r.idx, .int .i64 0, .int .i64 0, .int .u16 0, .int .u16 0, .int .u32 0, .int .i64 0, .int .i64 0, .int .i64 0, .int .i64 0]) (results_cell1 (P := Tryz.prog) (p := 2) (ty := 35) Tryz.results21 _ _ (X + 1) 35 #[.int .i64 r.kind, .int .i64 r.num, .int .u32 0, .slice none 0 0, .slice none 0 0, .int .u32 0, .int .i64 0, .string r.id, .int .u32 r.idx, .int .i64 0, .int .i64 0, .int .u16 0, .int .u16 0, .int .u32 0, .int .i64 0, .int .i64 0, .int .i64 0, .int .i64 0] (0, 0) _ rfl (setRow_heap _ (X + 1) _ _ _ _ HZ1.out) Tryz.underlying35 rfl (by kernel_rfl)) rfl ?_
  have HB := hid (show Below w.heap.size w (w1.setRow (X + 1) #[.int .i64 r.kind, .int .i64 r.num, .int .u32 0, .slice none 0 0, .slice none 0 0, .int .u32 0, .int .i64 0, .string r.id, .int .u32 r.idx, .int .i64 0, .int .i64 0, .int .u16 0, .int .u16 0, .int .u32 0, .int .i64 0, .int .i64 0, .int .i64 0, .int .i64 0]) from below_rowE HB.out (by have := HX.out; omega) _)
  have HOW := hid (show ownR r = _ from by unfold ownR; rw [if_neg (by have := HKK.out; omega), if_neg (by have := HKK.out; omega), if_pos HKK.out])
  have hok := HK.out
  unfold OwnIs
  rw [HOW.out] at hok ⊢
  exact ⟨_, rfl, fun B w2 _ => ⟨_, _, rfl, noTxQ_own B w2, hok⟩, HB.out⟩
set_option maxRecDepth 100000 in
set_option maxHeartbeats 8000000 in
theorem rown_k4 (va vb : Value) (r : PRec) (w : World) (hi1 : SlAt rpIn w va r.tx.ins) (ho1 : SlAt rpOut w vb r.tx.outs) (hk1 : r.Ok) (hk : r.kind = 4) : Calls Tryz.prog 21 #[.agg #[.int .i64 r.kind, .int .i64 r.num, .int .u32 r.tx.ver, va, vb, .int .u32 r.tx.lock, .int .i64 r.index, .string r.id, .int .u32 r.idx, .int .i64 r.val, .int .i64 r.br, .int .u16 r.tag, .int .u16 r.delay, .int .u32 r.height, .int .i64 r.dead, .int .i64 r.budget, .int .i64 r.start, .int .i64 r.fee]] w (OwnIs va vb r w) := by
  have HI := hid hi1
  have HO := hid ho1
  have HK := hid (ownR_ok hk1)
  obtain ⟨ia, ic, rfl, -, -⟩ := hi1.shape
  obtain ⟨oa, oc, rfl, -, -⟩ := ho1.shape
  obtain ⟨n1, hn1⟩ : ∃ n, n = r.tx.ins.length := ⟨_, rfl⟩
  obtain ⟨n2, hn2⟩ : ∃ n, n = r.tx.outs.length := ⟨_, rfl⟩
  rw [← hn1] at HI
  rw [← hn2] at HO
  rw [← hn1, ← hn2]
  clear hn1 hn2 hi1 ho1 hk1
  have HKK := hid hk
  have c1 : (r.kind == 1) = false := by rw [beq_eq_false_iff_ne]; omega
  have c2 : (r.kind == 2) = false := by rw [beq_eq_false_iff_ne]; omega
  have c3 : (r.kind == 3) = false := by rw [beq_eq_false_iff_ne]; omega
  have c4 : (r.kind == 4) = true := by rw [beq_iff_eq]; exact hk
  clear hk
  obtain ⟨X, hX⟩ : ∃ q, q = w.heap.size := ⟨_, rfl⟩
  obtain ⟨hz2, hy0, hy1, hy2, hal⟩ := box3 w X hX #[.int .i64 r.kind, .int .i64 r.num, .int .u32 r.tx.ver, .slice ia n1 ic, .slice oa n2 oc, .int .u32 r.tx.lock, .int .i64 r.index, .string r.id, .int .u32 r.idx, .int .i64 r.val, .int .i64 r.br, .int .u16 r.tag, .int .u16 r.delay, .int .u32 r.height, .int .i64 r.dead, .int .i64 r.budget, .int .i64 r.start, .int .i64 r.fee] #[.int .i64 0, .int .i64 0, .int .u32 0, .slice none 0 0, .slice none 0 0, .int .u32 0, .int .i64 0, .string ⟨#[]⟩, .int .u32 0, .int .i64 0, .int .i64 0, .int .u16 0, .int .u16 0, .int .u32 0, .int .i64 0, .int .i64 0, .int .i64 0, .int .i64 0] #[.int .i64 0, .int .i64 0, .int .u32 0, .slice none 0 0, .slice none 0 0, .int .u32 0, .int .i64 0, .string ⟨#[]⟩, .int .u32 0, .int .i64 0, .int .i64 0, .int .u16 0, .int .u16 0, .int .u32 0, .int .i64 0, .int .i64 0, .int .i64 0, .int .i64 0] #[.int .i64 r.kind, .int .i64 r.num, .int .u32 0, .slice none 0 0, .slice none 0 0, .int .u32 0, .int .i64 0, .string ⟨#[]⟩, .int .u32 0, .int .i64 0, .int .i64 0, .int .u16 0, .int .u16 0, .int .u32 0, .int .i64 0, .int .i64 0, .int .i64 0, .int .i64 0] 35
  have HN2 := hid hz2
  have HZ0 := hid hy0
  have HZ1 := hid hy1
  have HZ2 := hid hy2
  have HB := hid hal
  have HX := hid hX
  clear hz2 hy0 hy1 hy2 hal hX
  go_enter Tryz.func21, Tryz.ntmps21
  go_upto_region 2 with (refine wpList_store_row rfl 35 (.tmp 3) (.tmp 8) rfl (X + 1 + 1) #[.int .i64 r.kind, .int .i64 r.num, .int .u32 0, .slice none 0 0, .slice none 0 0, .int .u32 0, .int .i64 0, .string ⟨#[]⟩, .int .u32 0, .int .i64 0, .int .i64 0, .int .u16 0, .int .u16 0, .int .u32 0, .int .i64 0, .int .i64 0, .int .i64 0, .int .i64 0] (by rw [HX.out]; rfl) rfl 35 _ HN2.out (by kernel_rfl) rfl (by kernel_rfl) ?_)
  rw [← HX.out]
  generalize World.setRow _ (X + 1 + 1) #[.int .i64 r.kind, .int .i64 r.num, .int .u32 0, .slice none 0 0, .slice none 0 0, .int .u32 0, .int .i64 0, .string ⟨#[]⟩, .int .u32 0, .int .i64 0, .int .i64 0, .int .u16 0, .int .u16 0, .int .u32 0, .int .i64 0, .int .i64 0, .int .i64 0, .int .i64 0] = w0 at *
  clear HN2
  have x0 : w0.cell? ⟨X, 0, none⟩ = some (.int .i64 r.kind) := cell_at HZ0.out
  have x6 : w0.cell? ⟨X, 6, none⟩ = some (.int .i64 r.index) := cell_at HZ0.out
  have x7 : w0.cell? ⟨X, 7, none⟩ = some (.string r.id) := cell_at HZ0.out
  have x8 : w0.cell? ⟨X, 8, none⟩ = some (.int .u32 r.idx) := cell_at HZ0.out
  have x17 : w0.cell? ⟨X, 17, none⟩ = some (.int .i64 r.fee) := cell_at HZ0.out
  have y7 : w0.cell? ⟨X + 1 + 1, 7, none⟩ = some (.string ⟨#[]⟩) := cell_at HZ2.out
  have f7 : w0.frozen? ⟨X + 1 + 1, 7, none⟩ = false := free_at HZ2.out
  have y8 : w0.cell? ⟨X + 1 + 1, 8, none⟩ = some (.int .u32 0) := cell_at HZ2.out
  have f8 : w0.frozen? ⟨X + 1 + 1, 8, none⟩ = false := free_at HZ2.out
  have y6 : w0.cell? ⟨X + 1 + 1, 6, none⟩ = some (.int .i64 0) := cell_at HZ2.out
  have f6 : w0.frozen? ⟨X + 1 + 1, 6, none⟩ = false := free_at HZ2.out
  have y17 : w0.cell? ⟨X + 1 + 1, 17, none⟩ = some (.int .i64 0) := cell_at HZ2.out
  have f17 : w0.frozen? ⟨X + 1 + 1, 17, none⟩ = false := free_at HZ2.out
  go_upto_region 18 with fail
  change Code.wp _ _ _ _ (stores w0 (X + 1 + 1) [(7, .string r.id), (8, .int .u32 r.idx), (6, .int .i64 r.index), (17, .int .i64 r.fee)])
  obtain ⟨s1, s2, s3⟩ := stores_spec [(7, .string r.id), (8, .int .u32 r.idx), (6, .int .i64 r.index), (17, .int .i64 r.fee)] HZ2.out
  have HZ0 := hid ((s2 X (by omega)).trans HZ0.out)
  have HZ1 := hid ((s2 (X + 1) (by omega)).trans HZ1.out)
  have HZ2 := hid (show (stores w0 (X + 1 + 1) [(7, .string r.id), (8, .int .u32 r.idx), (6, .int .i64 r.index), (17, .int .i64 r.fee)]).heap[X + 1 + 1]? = some (.cells #[.int .i64 r.kind, .int .i64 r.num, .int .u32 0, .slice none 0 0, .slice none 0 0, .int .u32 0, .int .i64 r.index, .string r.id, .int .u32 r.idx, .int .i64 0, .int .i64 0, .int .u16 0, .int .u16 0, .int .u32 0, .int .i64 0, .int .i64 0, .int .i64 0, .int .i64 r.fee] 35 (0, 0)) from s1)
  have HB := hid (HB.out.trans (s3 w.heap.size (by have := HX.out; omega)))
  clear s1 s2 s3 x0 x6 x7 x8 x17 y7 f7 y8 f8 y6 f6 y17 f17
  generalize stores w0 (X + 1 + 1) [(7, .string r.id), (8, .int .u32 r.idx), (6, .int .i64 r.index), (17, .int .i64 r.fee)] = w1 at *
  go_wp2_with (first | (refine wpList_load_row rfl 35 (.tmp 3) rfl (X + 1 + 1) rfl 35 _ (0, 0) _ HZ2.out Tryz.underlying35 rfl (by kernel_rfl) ?_) | (refine wpList_store_row rfl 35 (.tmp 2) (.tmp 82) rfl (X + 1) #[.int .i64 r.kind, .int .i64 r.num, .int .u32 0, .slice none 0 0, .slice none 0 0, .int .u32 0, .int .i64 r.index, .string r.id, .int .u32 r.idx, .int .i64 0, .int .i64 0, .int .u16 0, .int .u16 0, .int .u32 0, .int .i64 0, .int .i64 0, .int .i64 0, .int .i64 r.fee] rfl rfl 35 _ HZ1.out (by kernel_rfl) rfl (by kernel_rfl) ?_))
  refine bodyPost_ret (v := .agg #[.int .i64 r.kind, .int .i64 r.num, .int .u32 0, .slice none 0 0, .slice none 0 0, .int .u32 0, .int .i64 r.index, .string r.id, .int .u32 r.idx, .int .i64 0, .int .i64 0, .int .u16 0, .int .u16 0, .int .u32 0, .int .i64 0, .int .i64 0, .int .i64 0, .int .i64 r.fee]) (results_cell1 (P := Tryz.prog) (p := 2) (ty := 35) Tryz.results21 _ _ (X + 1) 35 #[.int .i64 r.kind, .int .i64 r.num, .int .u32 0, .slice none 0 0, .slice none 0 0, .int .u32 0, .int .i64 r.index, .string r.id, .int .u32 r.idx, .int .i64 0, .int .i64 0, .int .u16 0, .int .u16 0, .int .u32 0, .int .i64 0, .int .i64 0, .int .i64 0, .int .i64 r.fee] (0, 0) _ rfl (setRow_heap _ (X + 1) _ _ _ _ HZ1.out) Tryz.underlying35 rfl (by kernel_rfl)) rfl ?_
  have HB := hid (show Below w.heap.size w (w1.setRow (X + 1) #[.int .i64 r.kind, .int .i64 r.num, .int .u32 0, .slice none 0 0, .slice none 0 0, .int .u32 0, .int .i64 r.index, .string r.id, .int .u32 r.idx, .int .i64 0, .int .i64 0, .int .u16 0, .int .u16 0, .int .u32 0, .int .i64 0, .int .i64 0, .int .i64 0, .int .i64 r.fee]) from below_rowE HB.out (by have := HX.out; omega) _)
  have HOW := hid (show ownR r = _ from by unfold ownR; rw [if_neg (by have := HKK.out; omega), if_neg (by have := HKK.out; omega), if_neg (by have := HKK.out; omega), if_pos HKK.out])
  have hok := HK.out
  unfold OwnIs
  rw [HOW.out] at hok ⊢
  exact ⟨_, rfl, fun B w2 _ => ⟨_, _, rfl, noTxQ_own B w2, hok⟩, HB.out⟩
set_option maxRecDepth 100000 in
set_option maxHeartbeats 8000000 in
theorem rown_k5 (va vb : Value) (r : PRec) (w : World) (hi1 : SlAt rpIn w va r.tx.ins) (ho1 : SlAt rpOut w vb r.tx.outs) (hk1 : r.Ok) (hk : ¬ r.kind = 1 ∧ ¬ r.kind = 2 ∧ ¬ r.kind = 3 ∧ ¬ r.kind = 4) : Calls Tryz.prog 21 #[.agg #[.int .i64 r.kind, .int .i64 r.num, .int .u32 r.tx.ver, va, vb, .int .u32 r.tx.lock, .int .i64 r.index, .string r.id, .int .u32 r.idx, .int .i64 r.val, .int .i64 r.br, .int .u16 r.tag, .int .u16 r.delay, .int .u32 r.height, .int .i64 r.dead, .int .i64 r.budget, .int .i64 r.start, .int .i64 r.fee]] w (OwnIs va vb r w) := by
  have HI := hid hi1
  have HO := hid ho1
  have HK := hid (ownR_ok hk1)
  obtain ⟨ia, ic, rfl, -, -⟩ := hi1.shape
  obtain ⟨oa, oc, rfl, -, -⟩ := ho1.shape
  obtain ⟨n1, hn1⟩ : ∃ n, n = r.tx.ins.length := ⟨_, rfl⟩
  obtain ⟨n2, hn2⟩ : ∃ n, n = r.tx.outs.length := ⟨_, rfl⟩
  rw [← hn1] at HI
  rw [← hn2] at HO
  rw [← hn1, ← hn2]
  clear hn1 hn2 hi1 ho1 hk1
  have HKK := hid hk
  have c1 : (r.kind == 1) = false := by rw [beq_eq_false_iff_ne]; omega
  have c2 : (r.kind == 2) = false := by rw [beq_eq_false_iff_ne]; omega
  have c3 : (r.kind == 3) = false := by rw [beq_eq_false_iff_ne]; omega
  have c4 : (r.kind == 4) = false := by rw [beq_eq_false_iff_ne]; omega
  clear hk
  obtain ⟨X, hX⟩ : ∃ q, q = w.heap.size := ⟨_, rfl⟩
  obtain ⟨hz2, hy0, hy1, hy2, hal⟩ := box3 w X hX #[.int .i64 r.kind, .int .i64 r.num, .int .u32 r.tx.ver, .slice ia n1 ic, .slice oa n2 oc, .int .u32 r.tx.lock, .int .i64 r.index, .string r.id, .int .u32 r.idx, .int .i64 r.val, .int .i64 r.br, .int .u16 r.tag, .int .u16 r.delay, .int .u32 r.height, .int .i64 r.dead, .int .i64 r.budget, .int .i64 r.start, .int .i64 r.fee] #[.int .i64 0, .int .i64 0, .int .u32 0, .slice none 0 0, .slice none 0 0, .int .u32 0, .int .i64 0, .string ⟨#[]⟩, .int .u32 0, .int .i64 0, .int .i64 0, .int .u16 0, .int .u16 0, .int .u32 0, .int .i64 0, .int .i64 0, .int .i64 0, .int .i64 0] #[.int .i64 0, .int .i64 0, .int .u32 0, .slice none 0 0, .slice none 0 0, .int .u32 0, .int .i64 0, .string ⟨#[]⟩, .int .u32 0, .int .i64 0, .int .i64 0, .int .u16 0, .int .u16 0, .int .u32 0, .int .i64 0, .int .i64 0, .int .i64 0, .int .i64 0] #[.int .i64 r.kind, .int .i64 r.num, .int .u32 0, .slice none 0 0, .slice none 0 0, .int .u32 0, .int .i64 0, .string ⟨#[]⟩, .int .u32 0, .int .i64 0, .int .i64 0, .int .u16 0, .int .u16 0, .int .u32 0, .int .i64 0, .int .i64 0, .int .i64 0, .int .i64 0] 35
  have HN2 := hid hz2
  have HZ0 := hid hy0
  have HZ1 := hid hy1
  have HZ2 := hid hy2
  have HB := hid hal
  have HX := hid hX
  clear hz2 hy0 hy1 hy2 hal hX
  go_enter Tryz.func21, Tryz.ntmps21
  go_upto_region 2 with (refine wpList_store_row rfl 35 (.tmp 3) (.tmp 8) rfl (X + 1 + 1) #[.int .i64 r.kind, .int .i64 r.num, .int .u32 0, .slice none 0 0, .slice none 0 0, .int .u32 0, .int .i64 0, .string ⟨#[]⟩, .int .u32 0, .int .i64 0, .int .i64 0, .int .u16 0, .int .u16 0, .int .u32 0, .int .i64 0, .int .i64 0, .int .i64 0, .int .i64 0] (by rw [HX.out]; rfl) rfl 35 _ HN2.out (by kernel_rfl) rfl (by kernel_rfl) ?_)
  rw [← HX.out]
  generalize World.setRow _ (X + 1 + 1) #[.int .i64 r.kind, .int .i64 r.num, .int .u32 0, .slice none 0 0, .slice none 0 0, .int .u32 0, .int .i64 0, .string ⟨#[]⟩, .int .u32 0, .int .i64 0, .int .i64 0, .int .u16 0, .int .u16 0, .int .u32 0, .int .i64 0, .int .i64 0, .int .i64 0, .int .i64 0] = w0 at *
  clear HN2
  have x0 : w0.cell? ⟨X, 0, none⟩ = some (.int .i64 r.kind) := cell_at HZ0.out
  go_upto_region 18 with fail
  clear x0
  go_wp2_with (first | (refine wpList_load_row rfl 35 (.tmp 3) rfl (X + 1 + 1) rfl 35 _ (0, 0) _ HZ2.out Tryz.underlying35 rfl (by kernel_rfl) ?_) | (refine wpList_store_row rfl 35 (.tmp 2) (.tmp 82) rfl (X + 1) #[.int .i64 r.kind, .int .i64 r.num, .int .u32 0, .slice none 0 0, .slice none 0 0, .int .u32 0, .int .i64 0, .string ⟨#[]⟩, .int .u32 0, .int .i64 0, .int .i64 0, .int .u16 0, .int .u16 0, .int .u32 0, .int .i64 0, .int .i64 0, .int .i64 0, .int .i64 0] rfl rfl 35 _ HZ1.out (by kernel_rfl) rfl (by kernel_rfl) ?_))
  refine bodyPost_ret (v := .agg #[.int .i64 r.kind, .int .i64 r.num, .int .u32 0, .slice none 0 0, .slice none 0 0, .int .u32 0, .int .i64 0, .string ⟨#[]⟩, .int .u32 0, .int .i64 0, .int .i64 0, .int .u16 0, .int .u16 0, .int .u32 0, .int .i64 0, .int .i64 0, .int .i64 0, .int .i64 0]) (results_cell1 (P := Tryz.prog) (p := 2) (ty := 35) Tryz.results21 _ _ (X + 1) 35 #[.int .i64 r.kind, .int .i64 r.num, .int .u32 0, .slice none 0 0, .slice none 0 0, .int .u32 0, .int .i64 0, .string ⟨#[]⟩, .int .u32 0, .int .i64 0, .int .i64 0, .int .u16 0, .int .u16 0, .int .u32 0, .int .i64 0, .int .i64 0, .int .i64 0, .int .i64 0] (0, 0) _ rfl (setRow_heap _ (X + 1) _ _ _ _ HZ1.out) Tryz.underlying35 rfl (by kernel_rfl)) rfl ?_
  have HB := hid (show Below w.heap.size w (w0.setRow (X + 1) #[.int .i64 r.kind, .int .i64 r.num, .int .u32 0, .slice none 0 0, .slice none 0 0, .int .u32 0, .int .i64 0, .string ⟨#[]⟩, .int .u32 0, .int .i64 0, .int .i64 0, .int .u16 0, .int .u16 0, .int .u32 0, .int .i64 0, .int .i64 0, .int .i64 0, .int .i64 0]) from below_rowE HB.out (by have := HX.out; omega) _)
  have HOW := hid (show ownR r = _ from by unfold ownR; rw [if_neg (by have := HKK.out; omega), if_neg (by have := HKK.out; omega), if_neg (by have := HKK.out; omega), if_neg (by have := HKK.out; omega)])
  have hok := HK.out
  unfold OwnIs
  rw [HOW.out] at hok ⊢
  exact ⟨_, rfl, fun B w2 _ => ⟨_, _, rfl, noTxQ_own B w2, hok⟩, HB.out⟩
theorem rown_any (va vb : Value) (r : PRec) (w : World) (hi1 : SlAt rpIn w va r.tx.ins) (ho1 : SlAt rpOut w vb r.tx.outs) (hk1 : r.Ok) : Calls Tryz.prog 21 #[.agg #[.int .i64 r.kind, .int .i64 r.num, .int .u32 r.tx.ver, va, vb, .int .u32 r.tx.lock, .int .i64 r.index, .string r.id, .int .u32 r.idx, .int .i64 r.val, .int .i64 r.br, .int .u16 r.tag, .int .u16 r.delay, .int .u32 r.height, .int .i64 r.dead, .int .i64 r.budget, .int .i64 r.start, .int .i64 r.fee]] w (OwnIs va vb r w) := by
  by_cases k1 : r.kind = 1
  · exact rown_k1 va vb r w hi1 ho1 hk1 k1
  by_cases k2 : r.kind = 2
  · exact rown_k2 va vb r w hi1 ho1 hk1 k2
  by_cases k3 : r.kind = 3
  · exact rown_k3 va vb r w hi1 ho1 hk1 k3
  by_cases k4 : r.kind = 4
  · exact rown_k4 va vb r w hi1 ho1 hk1 k4
  exact rown_k5 va vb r w hi1 ho1 hk1 ⟨k1, k2, k3, k4⟩
end Go.Proofs.YtaooibocknemkaaGreat
