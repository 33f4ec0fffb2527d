/-
  rec.payload, kind by kind. Conditions: the record lies in memory and may be.
-/
import Derived.Test.YtaooibocknemkaaGreatQ7RecPuts
namespace Go.Proofs.YtaooibocknemkaaGreat
open Go.RowKit Go.BigFrame
open Go.Lib (hid)
set_option linter.unusedVariables false
set_option linter.unusedSimpArgs false
set_option maxRecDepth 100000 in
set_option maxHeartbeats 8000000 in
theorem pay_k3 (v1 : Value) (r : PRec) (w : World) (h1 : RecAt w v1 r) (hg : Ranged r) (hk : r.kind = 3) : Calls Tryz.prog 39 #[v1] w (SIs (payL r) w) := by
  obtain ⟨va, vb, rfl, hi1, ho1, hk1⟩ := h1
  have HI := hid hi1
  have HO := hid ho1
  have HK := hid hk1
  obtain ⟨ia, ic, rfl, -, -⟩ := hi1.shape
  obtain ⟨oa, oc, rfl, -, -⟩ := ho1.shape
  obtain ⟨n1, hn1⟩ : ∃ n, n = r.tx.ins.length := ⟨_, rfl⟩
  obtain ⟨n2, hn2⟩ : ∃ n, n = r.tx.outs.length := ⟨_, rfl⟩
  have HR := hid (show RecAt w (.agg #[.int .i64 r.kind, .int .i64 r.num, .int .u32 r.tx.ver, .slice ia n1 ic, .slice oa n2 oc, .int .u32 r.tx.lock, .int .i64 r.index, .string r.id, .int .u32 r.idx, .int .i64 r.val, .int .i64 r.br, .int .u16 r.tag, .int .u16 r.delay, .int .u32 r.height, .int .i64 r.dead, .int .i64 r.budget, .int .i64 r.start, .int .i64 r.fee]) r from ⟨_, _, by rw [hn1, hn2], hi1, ho1, hk1⟩)
  rw [← hn1, ← hn2]
  rw [← hn1] at HI
  rw [← hn2] at HO
  obtain ⟨p1, hsp1⟩ : ∃ s, s = bL (leB r.kind.toNat 1) := ⟨_, rfl⟩
  have qp1 : p1.size = 1 := by rw [hsp1, bL_size, leB_length]
  have Hp1 := hid (show ∀ y : World, Calls Tryz.prog 40 #[.int .i64 r.kind, .int .i64 1] y (fun e w' => e = .returned (.string p1) ∧ Below y.heap.size y w') from fun y => by rw [hsp1]; exact recnum_any r.kind 1 (by omega) hk1.kind.2 (.inl rfl) y)
  obtain ⟨p2, hsp2⟩ : ∃ s, s = bL (leB r.num.toNat 4) := ⟨_, rfl⟩
  have qp2 : p2.size = 4 := by rw [hsp2, bL_size, leB_length]
  have Hp2 := hid (show ∀ y : World, Calls Tryz.prog 40 #[.int .i64 r.num, .int .i64 4] y (fun e w' => e = .returned (.string p2) ∧ Below y.heap.size y w') from fun y => by rw [hsp2]; exact recnum_any r.num 4 hg.num.1 hk1.num.2 (.inr (.inr (.inl rfl))) y)
  obtain ⟨pt, hspt⟩ : ∃ s, s = bL (r.id.data.toList ++ leB r.idx 4) := ⟨_, rfl⟩
  have hid32 := hg.id (by omega) (by omega)
  have qpt : pt.size = 36 := by rw [hspt, bL_size, List.length_append, leB_length, data_len, hid32]
  have Hpt := hid (show ∀ y : World, Calls Tryz.prog 71 #[.agg #[.string r.id, .int .u32 r.idx]] y (fun e w' => e = .returned (.string pt) ∧ Below y.heap.size y w') from fun y => by rw [hspt]; exact recpoint_any r.id r.idx (by omega) hk1.idx y)
  have HS := hid (show p1 ++ p2 ++ pt = bL (payL r) from by rw [hsp1, hsp2, hspt]; simp only [bL_app]; unfold payL bodyL; rw [if_neg (by omega), if_neg (by omega), if_pos hk]; simp only [pointL, List.append_assoc, List.append_nil])
  have c1 : (r.kind == 1) = false := by rw [beq_eq_false_iff_ne]; omega
  have c2 : (r.kind == 2) = false := by rw [beq_eq_false_iff_ne]; omega
  have c3 : (r.kind == 3) = true := by rw [beq_iff_eq]; exact hk
  clear hg hk hk1 hi1 ho1 hn1 hn2 HK hsp1 hsp2 hid32 hspt
  go_enter Tryz.func39, Tryz.ntmps39
  go_upto_region 1 with fail
  have hz := heap_alloc_new w (.cells #[.int .i64 r.kind, .int .i64 r.num, .int .u32 r.tx.ver, .slice ia n1 ic, .slice oa n2 oc, .int .u32 r.tx.lock, .int .i64 r.index, .string r.id, .int .u32 r.idx, .int .i64 r.val, .int .i64 r.br, .int .u16 r.tag, .int .u16 r.delay, .int .u32 r.height, .int .i64 r.dead, .int .i64 r.budget, .int .i64 r.start, .int .i64 r.fee] 35)
  have hal : Below w.heap.size w (w.alloc (.cells #[.int .i64 r.kind, .int .i64 r.num, .int .u32 r.tx.ver, .slice ia n1 ic, .slice oa n2 oc, .int .u32 r.tx.lock, .int .i64 r.index, .string r.id, .int .u32 r.idx, .int .i64 r.val, .int .i64 r.br, .int .u16 r.tag, .int .u16 r.delay, .int .u32 r.height, .int .i64 r.dead, .int .i64 r.budget, .int .i64 r.start, .int .i64 r.fee] 35)) := (Below.refl _ _).alloc (Nat.le_refl _) _
  obtain ⟨X, hX⟩ : ∃ q, q = w.heap.size := ⟨_, rfl⟩
  rw [← hX] at hz ⊢
  generalize w.alloc (.cells #[.int .i64 r.kind, .int .i64 r.num, .int .u32 r.tx.ver, .slice ia n1 ic, .slice oa n2 oc, .int .u32 r.tx.lock, .int .i64 r.index, .string r.id, .int .u32 r.idx, .int .i64 r.val, .int .i64 r.br, .int .u16 r.tag, .int .u16 r.delay, .int .u32 r.height, .int .i64 r.dead, .int .i64 r.budget, .int .i64 r.start, .int .i64 r.fee] 35) = w0 at *
  have HB := hid hal
  have HR := hid (HR.out.below hal)
  have x0 : w0.cell? ⟨X, 0, none⟩ = some (.int .i64 r.kind) := cell_at hz
  have x1 : w0.cell? ⟨X, 1, none⟩ = some (.int .i64 r.num) := cell_at hz
  have x7 : w0.cell? ⟨X, 7, none⟩ = some (.string r.id) := cell_at hz
  have x8 : w0.cell? ⟨X, 8, none⟩ = some (.int .u32 r.idx) := cell_at hz
  clear hz hal hX
  obtain ⟨C, hC⟩ : ∃ C : World → Prop, C = fun w' => Below w0.heap.size w0 w' := ⟨_, rfl⟩
  have kx0 := kin_cell hC x0
  have kx1 := kin_cell hC x1
  have QQA := hid (kin_call hC fun y h => Hp1.out y)
  have QQB := hid (kin_call hC fun y h => Hp2.out y)
  have HC := hid hC
  clear hC
  refine wp_region_kin C (by kernel_rfl) (by kernel_rfl) (by rw [HC.out]; exact ⟨rfl, rfl, rfl, Nat.le_refl _, fun _ _ => rfl⟩) ?_
  intro hne
  repeat (first | (go_big_quiet_step (first | (rename_i y; go_at_call_of 40 (#[.int .i64 r.kind, .int .i64 1] : Array Value); exact Calls.kin (QQA.out y) (fun w' h => h)) | (rename_i y; go_at_call_of 40 (#[.int .i64 r.num, .int .i64 4] : Array Value); exact Calls.kin (QQB.out y) (fun w' h => h)))) | (quiet_step (first | (rename_i y; go_at_call_of 40 (#[.int .i64 r.kind, .int .i64 1] : Array Value); exact Calls.kin (QQA.out y) (fun w' h => h)) | (rename_i y; go_at_call_of 40 (#[.int .i64 r.num, .int .i64 4] : Array Value); exact Calls.kin (QQB.out y) (fun w' h => h)))))
  refine wpQuiet_nil ?_
  intro _ hw'
  obtain ⟨kx, hw''⟩ := hw'
  subst hw''
  obtain ⟨w1, hxc⟩ := kx
  rw [HC.out] at hxc
  clear HC hne kx0 kx1
  have HB := hid (HB.out.trans (hxc.mono HB.out.size))
  have HR := hid (HR.out.below hxc)
  replace x0 := below_cells hxc _ _ x0
  replace x1 := below_cells hxc _ _ x1
  replace x7 := below_cells hxc _ _ x7
  replace x8 := below_cells hxc _ _ x8
  clear hxc Hp1 Hp2
  go_wp2_with fail
  refine (Hpt.out w1).mono ?_
  rintro e w2 ⟨rfl, hb⟩
  have HB := hid (HB.out.trans (hb.mono HB.out.size))
  clear hb
  go_wp2_with fail
  go_ret
  exact ⟨congrArg (fun s => Ending.returned (.string s)) HS.out, HB.out⟩
set_option maxRecDepth 100000 in
set_option maxHeartbeats 8000000 in
theorem pay_k5 (v1 : Value) (r : PRec) (w : World) (h1 : RecAt w v1 r) (hg : Ranged r) (hk : r.kind = 5) : Calls Tryz.prog 39 #[v1] w (SIs (payL r) w) := by
  obtain ⟨va, vb, rfl, hi1, ho1, hk1⟩ := h1
  have HI := hid hi1
  have HO := hid ho1
  have HK := hid hk1
  obtain ⟨ia, ic, rfl, -, -⟩ := hi1.shape
  obtain ⟨oa, oc, rfl, -, -⟩ := ho1.shape
  obtain ⟨n1, hn1⟩ : ∃ n, n = r.tx.ins.length := ⟨_, rfl⟩
  obtain ⟨n2, hn2⟩ : ∃ n, n = r.tx.outs.length := ⟨_, rfl⟩
  have HR := hid (show RecAt w (.agg #[.int .i64 r.kind, .int .i64 r.num, .int .u32 r.tx.ver, .slice ia n1 ic, .slice oa n2 oc, .int .u32 r.tx.lock, .int .i64 r.index, .string r.id, .int .u32 r.idx, .int .i64 r.val, .int .i64 r.br, .int .u16 r.tag, .int .u16 r.delay, .int .u32 r.height, .int .i64 r.dead, .int .i64 r.budget, .int .i64 r.start, .int .i64 r.fee]) r from ⟨_, _, by rw [hn1, hn2], hi1, ho1, hk1⟩)
  rw [← hn1, ← hn2]
  rw [← hn1] at HI
  rw [← hn2] at HO
  obtain ⟨p1, hsp1⟩ : ∃ s, s = bL (leB r.kind.toNat 1) := ⟨_, rfl⟩
  have qp1 : p1.size = 1 := by rw [hsp1, bL_size, leB_length]
  have Hp1 := hid (show ∀ y : World, Calls Tryz.prog 40 #[.int .i64 r.kind, .int .i64 1] y (fun e w' => e = .returned (.string p1) ∧ Below y.heap.size y w') from fun y => by rw [hsp1]; exact recnum_any r.kind 1 (by omega) hk1.kind.2 (.inl rfl) y)
  obtain ⟨p2, hsp2⟩ : ∃ s, s = bL (leB r.num.toNat 4) := ⟨_, rfl⟩
  have qp2 : p2.size = 4 := by rw [hsp2, bL_size, leB_length]
  have Hp2 := hid (show ∀ y : World, Calls Tryz.prog 40 #[.int .i64 r.num, .int .i64 4] y (fun e w' => e = .returned (.string p2) ∧ Below y.heap.size y w') from fun y => by rw [hsp2]; exact recnum_any r.num 4 hg.num.1 hk1.num.2 (.inr (.inr (.inl rfl))) y)
  have HS := hid (show p1 ++ p2 = bL (payL r) from by rw [hsp1, hsp2]; simp only [bL_app]; unfold payL bodyL; rw [if_neg (by omega), if_neg (by omega), if_neg (by omega), if_neg (by omega)]; simp only [pointL, List.append_assoc, List.append_nil])
  have c1 : (r.kind == 1) = false := by rw [beq_eq_false_iff_ne]; omega
  have c2 : (r.kind == 2) = false := by rw [beq_eq_false_iff_ne]; omega
  have c3 : (r.kind == 3) = false := by rw [beq_eq_false_iff_ne]; omega
  have c4 : (r.kind == 4) = false := by rw [beq_eq_false_iff_ne]; omega
  clear hg hk hk1 hi1 ho1 hn1 hn2 HK hsp1 hsp2
  go_enter Tryz.func39, Tryz.ntmps39
  go_upto_region 1 with fail
  have hz := heap_alloc_new w (.cells #[.int .i64 r.kind, .int .i64 r.num, .int .u32 r.tx.ver, .slice ia n1 ic, .slice oa n2 oc, .int .u32 r.tx.lock, .int .i64 r.index, .string r.id, .int .u32 r.idx, .int .i64 r.val, .int .i64 r.br, .int .u16 r.tag, .int .u16 r.delay, .int .u32 r.height, .int .i64 r.dead, .int .i64 r.budget, .int .i64 r.start, .int .i64 r.fee] 35)
  have hal : Below w.heap.size w (w.alloc (.cells #[.int .i64 r.kind, .int .i64 r.num, .int .u32 r.tx.ver, .slice ia n1 ic, .slice oa n2 oc, .int .u32 r.tx.lock, .int .i64 r.index, .string r.id, .int .u32 r.idx, .int .i64 r.val, .int .i64 r.br, .int .u16 r.tag, .int .u16 r.delay, .int .u32 r.height, .int .i64 r.dead, .int .i64 r.budget, .int .i64 r.start, .int .i64 r.fee] 35)) := (Below.refl _ _).alloc (Nat.le_refl _) _
  obtain ⟨X, hX⟩ : ∃ q, q = w.heap.size := ⟨_, rfl⟩
  rw [← hX] at hz ⊢
  generalize w.alloc (.cells #[.int .i64 r.kind, .int .i64 r.num, .int .u32 r.tx.ver, .slice ia n1 ic, .slice oa n2 oc, .int .u32 r.tx.lock, .int .i64 r.index, .string r.id, .int .u32 r.idx, .int .i64 r.val, .int .i64 r.br, .int .u16 r.tag, .int .u16 r.delay, .int .u32 r.height, .int .i64 r.dead, .int .i64 r.budget, .int .i64 r.start, .int .i64 r.fee] 35) = w0 at *
  have HB := hid hal
  have HR := hid (HR.out.below hal)
  have x0 : w0.cell? ⟨X, 0, none⟩ = some (.int .i64 r.kind) := cell_at hz
  have x1 : w0.cell? ⟨X, 1, none⟩ = some (.int .i64 r.num) := cell_at hz
  clear hz hal hX
  obtain ⟨C, hC⟩ : ∃ C : World → Prop, C = fun w' => Below w0.heap.size w0 w' := ⟨_, rfl⟩
  have kx0 := kin_cell hC x0
  have kx1 := kin_cell hC x1
  have QQA := hid (kin_call hC fun y h => Hp1.out y)
  have QQB := hid (kin_call hC fun y h => Hp2.out y)
  have HC := hid hC
  clear hC
  refine wp_region_kin C (by kernel_rfl) (by kernel_rfl) (by rw [HC.out]; exact ⟨rfl, rfl, rfl, Nat.le_refl _, fun _ _ => rfl⟩) ?_
  intro hne
  repeat (first | (go_big_quiet_step (first | (rename_i y; go_at_call_of 40 (#[.int .i64 r.kind, .int .i64 1] : Array Value); exact Calls.kin (QQA.out y) (fun w' h => h)) | (rename_i y; go_at_call_of 40 (#[.int .i64 r.num, .int .i64 4] : Array Value); exact Calls.kin (QQB.out y) (fun w' h => h)))) | (quiet_step (first | (rename_i y; go_at_call_of 40 (#[.int .i64 r.kind, .int .i64 1] : Array Value); exact Calls.kin (QQA.out y) (fun w' h => h)) | (rename_i y; go_at_call_of 40 (#[.int .i64 r.num, .int .i64 4] : Array Value); exact Calls.kin (QQB.out y) (fun w' h => h)))))
  refine wpQuiet_nil ?_
  intro _ hw'
  obtain ⟨kx, hw''⟩ := hw'
  subst hw''
  obtain ⟨w1, hxc⟩ := kx
  rw [HC.out] at hxc
  clear HC hne kx0 kx1
  have HB := hid (HB.out.trans (hxc.mono HB.out.size))
  have HR := hid (HR.out.below hxc)
  replace x0 := below_cells hxc _ _ x0
  replace x1 := below_cells hxc _ _ x1
  clear hxc Hp1 Hp2
  go_wp2_with fail
  go_ret
  exact ⟨congrArg (fun s => Ending.returned (.string s)) HS.out, HB.out⟩
end Go.Proofs.YtaooibocknemkaaGreat
