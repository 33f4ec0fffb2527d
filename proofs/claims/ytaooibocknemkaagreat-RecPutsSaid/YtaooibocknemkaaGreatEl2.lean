/-
  rec.payload, kind by kind. Conditions: the record lies in memory and may be.
-/
import Derived.Test.YtaooibocknemkaaGreatQ7RecPuts
namespace Go.Proofs.YtaooibocknemkaaGreat
open Go.RowKit Go.BigFrame
open Go.Lib (hid)
set_option linter.unusedVariables false
set_option linter.unusedSimpArgs false
set_option maxRecDepth 100000 in
set_option maxHeartbeats 8000000 in
theorem pay_k2 (v1 : Value) (r : PRec) (w : World) (h1 : RecAt w v1 r) (hg : Ranged r) (hk : r.kind = 2) : Calls Tryz.prog 39 #[v1] w (SIs (payL r) w) := by
  obtain ⟨va, vb, rfl, hi1, ho1, hk1⟩ := h1
  have HI := hid hi1
  have HO := hid ho1
  have HK := hid hk1
  obtain ⟨ia, ic, rfl, -, -⟩ := hi1.shape
  obtain ⟨oa, oc, rfl, -, -⟩ := ho1.shape
  obtain ⟨n1, hn1⟩ : ∃ n, n = r.tx.ins.length := ⟨_, rfl⟩
  obtain ⟨n2, hn2⟩ : ∃ n, n = r.tx.outs.length := ⟨_, rfl⟩
  have HR := hid (show RecAt w (.agg #[.int .i64 r.kind, .int .i64 r.num, .int .u32 r.tx.ver, .slice ia n1 ic, .slice oa n2 oc, .int .u32 r.tx.lock, .int .i64 r.index, .string r.id, .int .u32 r.idx, .int .i64 r.val, .int .i64 r.br, .int .u16 r.tag, .int .u16 r.delay, .int .u32 r.height, .int .i64 r.dead, .int .i64 r.budget, .int .i64 r.start, .int .i64 r.fee]) r from ⟨_, _, by rw [hn1, hn2], hi1, ho1, hk1⟩)
  rw [← hn1, ← hn2]
  rw [← hn1] at HI
  rw [← hn2] at HO
  obtain ⟨p1, hsp1⟩ : ∃ s, s = bL (leB r.kind.toNat 1) := ⟨_, rfl⟩
  have qp1 : p1.size = 1 := by rw [hsp1, bL_size, leB_length]
  have Hp1 := hid (show ∀ y : World, Calls Tryz.prog 40 #[.int .i64 r.kind, .int .i64 1] y (fun e w' => e = .returned (.string p1) ∧ Below y.heap.size y w') from fun y => by rw [hsp1]; exact recnum_any r.kind 1 (by omega) hk1.kind.2 (.inl rfl) y)
  obtain ⟨p2, hsp2⟩ : ∃ s, s = bL (leB r.num.toNat 4) := ⟨_, rfl⟩
  have qp2 : p2.size = 4 := by rw [hsp2, bL_size, leB_length]
  have Hp2 := hid (show ∀ y : World, Calls Tryz.prog 40 #[.int .i64 r.num, .int .i64 4] y (fun e w' => e = .returned (.string p2) ∧ Below y.heap.size y w') from fun y => by rw [hsp2]; exact recnum_any r.num 4 hg.num.1 hk1.num.2 (.inr (.inr (.inl rfl))) y)
  obtain ⟨pt, hspt⟩ : ∃ s, s = bL (r.id.data.toList ++ leB r.idx 4) := ⟨_, rfl⟩
  have hid32 := hg.id (by omega) (by omega)
  have qpt : pt.size = 36 := by rw [hspt, bL_size, List.length_append, leB_length, data_len, hid32]
  have Hpt := hid (show ∀ y : World, Calls Tryz.prog 71 #[.agg #[.string r.id, .int .u32 r.idx]] y (fun e w' => e = .returned (.string pt) ∧ Below y.heap.size y w') from fun y => by rw [hspt]; exact recpoint_any r.id r.idx (by omega) hk1.idx y)
  obtain ⟨v8, hsv8⟩ : ∃ s, s = bL (leB r.val.toNat 8) := ⟨_, rfl⟩
  have qv8 : v8.size = 8 := by rw [hsv8, bL_size, leB_length]
  have Hv8 := hid (show ∀ y : World, Calls Tryz.prog 40 #[.int .i64 r.val, .int .i64 8] y (fun e w' => e = .returned (.string v8) ∧ Below y.heap.size y w') from fun y => by rw [hsv8]; exact recnum_any r.val 8 hg.val.1 hk1.val.2 (.inr (.inr (.inr rfl))) y)
  obtain ⟨ws, hsws⟩ : ∃ s, s = bL (wishL r) := ⟨_, rfl⟩
  have qws : ws.size = 25 := by rw [hsws, bL_size]; unfold wishL; simp only [List.length_append, leB_length, List.length_nil]
  have HW := hid (show ∀ (y : World), RecAt y (.agg #[.int .i64 r.kind, .int .i64 r.num, .int .u32 r.tx.ver, .slice ia n1 ic, .slice oa n2 oc, .int .u32 r.tx.lock, .int .i64 r.index, .string r.id, .int .u32 r.idx, .int .i64 r.val, .int .i64 r.br, .int .u16 r.tag, .int .u16 r.delay, .int .u32 r.height, .int .i64 r.dead, .int .i64 r.budget, .int .i64 r.start, .int .i64 r.fee]) r → Calls Tryz.prog 70 #[.agg #[.int .i64 r.kind, .int .i64 r.num, .int .u32 r.tx.ver, .slice ia n1 ic, .slice oa n2 oc, .int .u32 r.tx.lock, .int .i64 r.index, .string r.id, .int .u32 r.idx, .int .i64 r.val, .int .i64 r.br, .int .u16 r.tag, .int .u16 r.delay, .int .u32 r.height, .int .i64 r.dead, .int .i64 r.budget, .int .i64 r.start, .int .i64 r.fee]] y (fun e w' => e = .returned (.string ws) ∧ Below y.heap.size y w') from fun y h => by rw [hsws]; exact recwish_any _ r y h hg.br.1 hg.dead.1 hg.budget.1 hg.start.1)
  have HS := hid (show p1 ++ p2 ++ pt ++ v8 ++ ws = bL (payL r) from by rw [hsp1, hsp2, hspt, hsv8, hsws]; simp only [bL_app]; unfold payL bodyL; rw [if_neg (by omega), if_pos hk]; simp only [pointL, List.append_assoc, List.append_nil])
  have c1 : (r.kind == 1) = false := by rw [beq_eq_false_iff_ne]; omega
  have c2 : (r.kind == 2) = true := by rw [beq_iff_eq]; exact hk
  clear hg hk hk1 hi1 ho1 hn1 hn2 HK hsp1 hsp2 hid32 hspt hsv8 hsws
  go_enter Tryz.func39, Tryz.ntmps39
  go_upto_region 1 with fail
  have hz := heap_alloc_new w (.cells #[.int .i64 r.kind, .int .i64 r.num, .int .u32 r.tx.ver, .slice ia n1 ic, .slice oa n2 oc, .int .u32 r.tx.lock, .int .i64 r.index, .string r.id, .int .u32 r.idx, .int .i64 r.val, .int .i64 r.br, .int .u16 r.tag, .int .u16 r.delay, .int .u32 r.height, .int .i64 r.dead, .int .i64 r.budget, .int .i64 r.start, .int .i64 r.fee] 35)
  have hal : Below w.heap.size w (w.alloc (.cells #[.int .i64 r.kind, .int .i64 r.num, .int .u32 r.tx.ver, .slice ia n1 ic, .slice oa n2 oc, .int .u32 r.tx.lock, .int .i64 r.index, .string r.id, .int .u32 r.idx, .int .i64 r.val, .int .i64 r.br, .int .u16 r.tag, .int .u16 r.delay, .int .u32 r.height, .int .i64 r.dead, .int .i64 r.budget, .int .i64 r.start, .int .i64 r.fee] 35)) := (Below.refl _ _).alloc (Nat.le_refl _) _
  obtain ⟨X, hX⟩ : ∃ q, q = w.heap.size := ⟨_, rfl⟩
  rw [← hX] at hz ⊢
  generalize w.alloc (.cells #[.int .i64 r.kind, .int .i64 r.num, .int .u32 r.tx.ver, .slice ia n1 ic, .slice oa n2 oc, .int .u32 r.tx.lock, .int .i64 r.index, .string r.id, .int .u32 r.idx, .int .i64 r.val, .int .i64 r.br, .int .u16 r.tag, .int .u16 r.delay, .int .u32 r.height, .int .i64 r.dead, .int .i64 r.budget, .int .i64 r.start, .int .i64 r.fee] 35) = w0 at *
  have HB := hid hal
  have HR := hid (HR.out.below hal)
  have x0 : w0.cell? ⟨X, 0, none⟩ = some (.int .i64 r.kind) := cell_at hz
  have x1 : w0.cell? ⟨X, 1, none⟩ = some (.int .i64 r.num) := cell_at hz
  have x2 : w0.cell? ⟨X, 2, none⟩ = some (.int .u32 r.tx.ver) := cell_at hz
  have x3 : w0.cell? ⟨X, 3, none⟩ = some (.slice ia n1 ic) := cell_at hz
  have x4 : w0.cell? ⟨X, 4, none⟩ = some (.slice oa n2 oc) := cell_at hz
  have x5 : w0.cell? ⟨X, 5, none⟩ = some (.int .u32 r.tx.lock) := cell_at hz
  have x6 : w0.cell? ⟨X, 6, none⟩ = some (.int .i64 r.index) := cell_at hz
  have x7 : w0.cell? ⟨X, 7, none⟩ = some (.string r.id) := cell_at hz
  have x8 : w0.cell? ⟨X, 8, none⟩ = some (.int .u32 r.idx) := cell_at hz
  have x9 : w0.cell? ⟨X, 9, none⟩ = some (.int .i64 r.val) := cell_at hz
  have x10 : w0.cell? ⟨X, 10, none⟩ = some (.int .i64 r.br) := cell_at hz
  have x11 : w0.cell? ⟨X, 11, none⟩ = some (.int .u16 r.tag) := cell_at hz
  have x12 : w0.cell? ⟨X, 12, none⟩ = some (.int .u16 r.delay) := cell_at hz
  have x13 : w0.cell? ⟨X, 13, none⟩ = some (.int .u32 r.height) := cell_at hz
  have x14 : w0.cell? ⟨X, 14, none⟩ = some (.int .i64 r.dead) := cell_at hz
  have x15 : w0.cell? ⟨X, 15, none⟩ = some (.int .i64 r.budget) := cell_at hz
  have x16 : w0.cell? ⟨X, 16, none⟩ = some (.int .i64 r.start) := cell_at hz
  have x17 : w0.cell? ⟨X, 17, none⟩ = some (.int .i64 r.fee) := cell_at hz
  clear hz hal hX
  obtain ⟨C, hC⟩ : ∃ C : World → Prop, C = fun w' => Below w0.heap.size w0 w' := ⟨_, rfl⟩
  have kx0 := kin_cell hC x0
  have kx1 := kin_cell hC x1
  have QQA := hid (kin_call hC fun y h => Hp1.out y)
  have QQB := hid (kin_call hC fun y h => Hp2.out y)
  have HC := hid hC
  clear hC
  refine wp_region_kin C (by kernel_rfl) (by kernel_rfl) (by rw [HC.out]; exact ⟨rfl, rfl, rfl, Nat.le_refl _, fun _ _ => rfl⟩) ?_
  intro hne
  repeat (first | (go_big_quiet_step (first | (rename_i y; go_at_call_of 40 (#[.int .i64 r.kind, .int .i64 1] : Array Value); exact Calls.kin (QQA.out y) (fun w' h => h)) | (rename_i y; go_at_call_of 40 (#[.int .i64 r.num, .int .i64 4] : Array Value); exact Calls.kin (QQB.out y) (fun w' h => h)))) | (quiet_step (first | (rename_i y; go_at_call_of 40 (#[.int .i64 r.kind, .int .i64 1] : Array Value); exact Calls.kin (QQA.out y) (fun w' h => h)) | (rename_i y; go_at_call_of 40 (#[.int .i64 r.num, .int .i64 4] : Array Value); exact Calls.kin (QQB.out y) (fun w' h => h)))))
  refine wpQuiet_nil ?_
  intro _ hw'
  obtain ⟨kx, hw''⟩ := hw'
  subst hw''
  obtain ⟨w1, hxc⟩ := kx
  rw [HC.out] at hxc
  clear HC hne kx0 kx1
  have HB := hid (HB.out.trans (hxc.mono HB.out.size))
  have HR := hid (HR.out.below hxc)
  replace x0 := below_cells hxc _ _ x0
  replace x1 := below_cells hxc _ _ x1
  replace x2 := below_cells hxc _ _ x2
  replace x3 := below_cells hxc _ _ x3
  replace x4 := below_cells hxc _ _ x4
  replace x5 := below_cells hxc _ _ x5
  replace x6 := below_cells hxc _ _ x6
  replace x7 := below_cells hxc _ _ x7
  replace x8 := below_cells hxc _ _ x8
  replace x9 := below_cells hxc _ _ x9
  replace x10 := below_cells hxc _ _ x10
  replace x11 := below_cells hxc _ _ x11
  replace x12 := below_cells hxc _ _ x12
  replace x13 := below_cells hxc _ _ x13
  replace x14 := below_cells hxc _ _ x14
  replace x15 := below_cells hxc _ _ x15
  replace x16 := below_cells hxc _ _ x16
  replace x17 := below_cells hxc _ _ x17
  clear hxc Hp1 Hp2
  go_upto_region 7 with fail
  obtain ⟨C, hC⟩ : ∃ C : World → Prop, C = fun w' => Below w1.heap.size w1 w' := ⟨_, rfl⟩
  have kx0 := kin_cell hC x0
  have kx1 := kin_cell hC x1
  have kx2 := kin_cell hC x2
  have kx3 := kin_cell hC x3
  have kx4 := kin_cell hC x4
  have kx5 := kin_cell hC x5
  have kx6 := kin_cell hC x6
  have kx7 := kin_cell hC x7
  have kx8 := kin_cell hC x8
  have kx9 := kin_cell hC x9
  have kx10 := kin_cell hC x10
  have kx11 := kin_cell hC x11
  have kx12 := kin_cell hC x12
  have kx13 := kin_cell hC x13
  have kx14 := kin_cell hC x14
  have kx15 := kin_cell hC x15
  have kx16 := kin_cell hC x16
  have kx17 := kin_cell hC x17
  have QQ3 := hid (kin_call hC fun y h => Hpt.out y)
  have QQv8 := hid (kin_call hC fun y h => Hv8.out y)
  have QQW := hid (kin_call hC fun y h => HW.out y (HR.out.below h))
  have HC := hid hC
  clear hC
  refine wp_region_kin C (by kernel_rfl) (by kernel_rfl) (by rw [HC.out]; exact ⟨rfl, rfl, rfl, Nat.le_refl _, fun _ _ => rfl⟩) ?_
  intro hne
  repeat (first | (go_big_quiet_step (first | (rename_i y; go_at_call_of 71 (#[.agg #[.string r.id, .int .u32 r.idx]] : Array Value); exact Calls.kin (QQ3.out y) (fun w' h => h)) | (rename_i y; go_at_call_of 40 (#[.int .i64 r.val, .int .i64 8] : Array Value); exact Calls.kin (QQv8.out y) (fun w' h => h)) | (rename_i y; go_at_call 70; exact Calls.kin (QQW.out y) (fun w' h => h)))) | (quiet_step (first | (rename_i y; go_at_call_of 71 (#[.agg #[.string r.id, .int .u32 r.idx]] : Array Value); exact Calls.kin (QQ3.out y) (fun w' h => h)) | (rename_i y; go_at_call_of 40 (#[.int .i64 r.val, .int .i64 8] : Array Value); exact Calls.kin (QQv8.out y) (fun w' h => h)) | (rename_i y; go_at_call 70; exact Calls.kin (QQW.out y) (fun w' h => h)))))
  refine wpQuiet_nil ?_
  intro _ hw'
  obtain ⟨kx, hw''⟩ := hw'
  subst hw''
  obtain ⟨w9, hxc⟩ := kx
  rw [HC.out] at hxc
  clear HC hne kx0 kx1 kx2 kx3 kx4 kx5 kx6 kx7 kx8 kx9 kx10 kx11 kx12 kx13 kx14 kx15 kx16 kx17
  have HB := hid (HB.out.trans (hxc.mono HB.out.size))
  go_wp2_with fail
  go_ret
  exact ⟨congrArg (fun s => Ending.returned (.string s)) HS.out, HB.out⟩
end Go.Proofs.YtaooibocknemkaaGreat
