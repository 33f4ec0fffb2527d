/-
  RecPuts, part 8: the texts EF3c, EF3, Eg, Eg1, Regv, Ra, one after another. Conditions: none beyond those named at each.
-/
import Derived.Test.YtaooibocknemkaaGreatQ4RecPuts
import Derived.Test.YtaooibocknemkaaGreatQ7RecPuts
import Derived.Test.YtaooibocknemkaaGreatQ6RecPuts
import Derived.BigRegion
import Derived.Test.YtaooibocknemkaaGreatQ5RecPuts
section
namespace Go.Proofs.YtaooibocknemkaaGreat
open Go.RowKit Go.BigFrame
open Go.Lib (hid)
set_option linter.unusedVariables false
set_option linter.unusedSimpArgs false
set_option maxRecDepth 100000 in
set_option maxHeartbeats 8000000 in
theorem pay26_k1 (v1 : Value) (r : PRec) (w : World) (h1 : RecAt w v1 r) (hg : Ranged r) (hk : r.kind = 1) : Calls Tryz.prog 47 #[v1] w (SIs (payL r) w) := by
  obtain ⟨va, vb, rfl, hi1, ho1, hk1⟩ := h1
  have HI := hid hi1
  have HO := hid ho1
  have HK := hid hk1
  obtain ⟨ia, ic, rfl, -, -⟩ := hi1.shape
  obtain ⟨oa, oc, rfl, -, -⟩ := ho1.shape
  obtain ⟨n1, hn1⟩ : ∃ n, n = r.tx.ins.length := ⟨_, rfl⟩
  obtain ⟨n2, hn2⟩ : ∃ n, n = r.tx.outs.length := ⟨_, rfl⟩
  rw [← hn1, ← hn2]
  rw [← hn1] at HI
  rw [← hn2] at HO
  obtain ⟨p1, hsp1⟩ : ∃ s, s = bL (leB (1 : Int).toNat 1) := ⟨_, rfl⟩
  have qp1 : p1.size = 1 := by rw [hsp1, bL_size, leB_length]
  have Hp1 := hid (show ∀ y : World, Calls Tryz.prog 48 #[.int .i64 1, .int .i64 1] y (fun e w' => e = .returned (.string p1) ∧ Below y.heap.size y w') from fun y => by rw [hsp1]; exact rn_any 1 1 (by decide) (by decide) (.inl rfl) y)
  obtain ⟨p2, hsp2⟩ : ∃ s, s = bL (leB r.num.toNat 4) := ⟨_, rfl⟩
  have qp2 : p2.size = 4 := by rw [hsp2, bL_size, leB_length]
  have Hp2 := hid (show ∀ y : World, Calls Tryz.prog 48 #[.int .i64 r.num, .int .i64 4] y (fun e w' => e = .returned (.string p2) ∧ Below y.heap.size y w') from fun y => by rw [hsp2]; exact rn_any r.num 4 hg.num.1 hk1.num.2 (.inr (.inr (.inl rfl))) y)
  have hck := (hg.com hk).1
  obtain ⟨t, hst⟩ : ∃ s, s = bL (txL r.tx) := ⟨_, rfl⟩
  have qt : t.size ≤ 150000 := by rw [hst, bL_size]; exact txL_len hck
  have hwt : IntKind.u64.wrap (t.size : Int) = t.size := by rw [IntKind.wrap_u64]; omega
  obtain ⟨v, hsv⟩ : ∃ s, s = bL (vintL t.size) := ⟨_, rfl⟩
  have qv : v.size ≤ 9 := by rw [hsv, bL_size]; exact vintL_le _
  have Hv := hid (show ∀ y : World, Calls Tryz.prog 80 #[.int .u64 t.size] y (fun e w' => e = .returned (.string v) ∧ Below y.heap.size y w') from fun y => by rw [hsv]; exact rvput_any t.size (by omega) y)
  have HEN := hid (show ∀ y : World, Below w.heap.size w y → Calls Tryz.prog 79 #[.agg #[.int .u32 r.tx.ver, .slice ia n1 ic, .slice oa n2 oc, .int .u32 r.tx.lock], .bool false] y (fun e w' => e = .returned (.string t) ∧ Below y.heap.size y w') from fun y hb => by
    have h := rbytes_any _ r.tx false y (rec_tx (HI.out.below hb) (HO.out.below hb) HK.out) (enc_of (whole_of hck))
    rw [hst]
    exact h)
  obtain ⟨i2, hsi2⟩ : ∃ s, s = bL (leB r.index.toNat 2) := ⟨_, rfl⟩
  have qi2 : i2.size = 2 := by rw [hsi2, bL_size, leB_length]
  have Hi2 := hid (show ∀ y : World, Calls Tryz.prog 48 #[.int .i64 r.index, .int .i64 2] y (fun e w' => e = .returned (.string i2) ∧ Below y.heap.size y w') from fun y => by rw [hsi2]; exact rn_any r.index 2 (hg.com hk).2.1 hk1.index.2 (.inr (.inl rfl)) y)
  have hwtag : IntKind.i64.wrap (r.tag : Int) = r.tag := by have := hk1.tag; rw [IntKind.wrap_i64]; omega
  have hwdelay : IntKind.i64.wrap (r.delay : Int) = r.delay := by have := hk1.delay; rw [IntKind.wrap_i64]; omega
  have hwheight : IntKind.i64.wrap (r.height : Int) = r.height := by have := hk1.height; rw [IntKind.wrap_i64]; omega
  obtain ⟨b1, hsb1⟩ : ∃ s, s = bL (leB r.br.toNat 1) := ⟨_, rfl⟩
  have qb1 : b1.size = 1 := by rw [hsb1, bL_size, leB_length]
  have Hb1 := hid (show ∀ y : World, Calls Tryz.prog 48 #[.int .i64 r.br, .int .i64 1] y (fun e w' => e = .returned (.string b1) ∧ Below y.heap.size y w') from fun y => by rw [hsb1]; exact rn_any r.br 1 hg.br.1 hk1.br.2 (.inl rfl) y)
  obtain ⟨g2, hsg2⟩ : ∃ s, s = bL (leB r.tag 2) := ⟨_, rfl⟩
  have qg2 : g2.size = 2 := by rw [hsg2, bL_size, leB_length]
  have Hg2 := hid (show ∀ y : World, Calls Tryz.prog 48 #[.int .i64 (r.tag : Int), .int .i64 2] y (fun e w' => e = .returned (.string g2) ∧ Below y.heap.size y w') from fun y => by rw [hsg2]; exact rn_any (r.tag : Int) 2 (by omega) (by have := hk1.tag; omega) (.inr (.inl rfl)) y)
  obtain ⟨d2, hsd2⟩ : ∃ s, s = bL (leB r.delay 2) := ⟨_, rfl⟩
  have qd2 : d2.size = 2 := by rw [hsd2, bL_size, leB_length]
  have Hd2 := hid (show ∀ y : World, Calls Tryz.prog 48 #[.int .i64 (r.delay : Int), .int .i64 2] y (fun e w' => e = .returned (.string d2) ∧ Below y.heap.size y w') from fun y => by rw [hsd2]; exact rn_any (r.delay : Int) 2 (by omega) (by have := hk1.delay; omega) (.inr (.inl rfl)) y)
  obtain ⟨h4, hsh4⟩ : ∃ s, s = bL (leB r.height 4) := ⟨_, rfl⟩
  have qh4 : h4.size = 4 := by rw [hsh4, bL_size, leB_length]
  have Hh4 := hid (show ∀ y : World, Calls Tryz.prog 48 #[.int .i64 (r.height : Int), .int .i64 4] y (fun e w' => e = .returned (.string h4) ∧ Below y.heap.size y w') from fun y => by rw [hsh4]; exact rn_any (r.height : Int) 4 (by omega) (by have := hk1.height; omega) (.inr (.inr (.inl rfl))) y)
  obtain ⟨e4, hse4⟩ : ∃ s, s = bL (leB r.dead.toNat 4) := ⟨_, rfl⟩
  have qe4 : e4.size = 4 := by rw [hse4, bL_size, leB_length]
  have He4 := hid (show ∀ y : World, Calls Tryz.prog 48 #[.int .i64 r.dead, .int .i64 4] y (fun e w' => e = .returned (.string e4) ∧ Below y.heap.size y w') from fun y => by rw [hse4]; exact rn_any r.dead 4 hg.dead.1 hk1.dead.2 (.inr (.inr (.inl rfl))) y)
  obtain ⟨m8, hsm8⟩ : ∃ s, s = bL (leB r.budget.toNat 8) := ⟨_, rfl⟩
  have qm8 : m8.size = 8 := by rw [hsm8, bL_size, leB_length]
  have Hm8 := hid (show ∀ y : World, Calls Tryz.prog 48 #[.int .i64 r.budget, .int .i64 8] y (fun e w' => e = .returned (.string m8) ∧ Below y.heap.size y w') from fun y => by rw [hsm8]; exact rn_any r.budget 8 hg.budget.1 hk1.budget.2 (.inr (.inr (.inr rfl))) y)
  obtain ⟨s4, hss4⟩ : ∃ s, s = bL (leB r.start.toNat 4) := ⟨_, rfl⟩
  have qs4 : s4.size = 4 := by rw [hss4, bL_size, leB_length]
  have Hs4 := hid (show ∀ y : World, Calls Tryz.prog 48 #[.int .i64 r.start, .int .i64 4] y (fun e w' => e = .returned (.string s4) ∧ Below y.heap.size y w') from fun y => by rw [hss4]; exact rn_any r.start 4 hg.start.1 hk1.start.2 (.inr (.inr (.inl rfl))) y)
  have HS := hid (show p1 ++ p2 ++ v ++ t ++ i2 ++ b1 ++ g2 ++ d2 ++ h4 ++ e4 ++ m8 ++ s4 = bL (payL r) from by
    rw [hsv, hst, bL_size, hsp1, hsp2, hsi2, hsb1, hsg2, hsd2, hsh4, hse4, hsm8, hss4]
    simp only [bL_app]
    unfold payL bodyL
    rw [if_pos hk]
    simp only [pointL, wishL, hk, bL_list, List.append_assoc, List.append_nil])
  rw [hk]
  clear hg hk hk1 hi1 ho1 hn1 hn2 HI HO HK hck hsp1 hsp2 hsv hst hsi2 hsb1 hsg2 hsd2 hsh4 hse4 hsm8 hss4
  go_enter Tryz.func47, Tryz.ntmps47
  go_upto_region 1 with fail
  have hz := heap_alloc_new w (.cells #[.int .i64 1, .int .i64 r.num, .int .u32 r.tx.ver, .slice ia n1 ic, .slice oa n2 oc, .int .u32 r.tx.lock, .int .i64 r.index, .string r.id, .int .u32 r.idx, .int .i64 r.val, .int .i64 r.br, .int .u16 r.tag, .int .u16 r.delay, .int .u32 r.height, .int .i64 r.dead, .int .i64 r.budget, .int .i64 r.start, .int .i64 r.fee] 35)
  have hal : Below w.heap.size w (w.alloc (.cells #[.int .i64 1, .int .i64 r.num, .int .u32 r.tx.ver, .slice ia n1 ic, .slice oa n2 oc, .int .u32 r.tx.lock, .int .i64 r.index, .string r.id, .int .u32 r.idx, .int .i64 r.val, .int .i64 r.br, .int .u16 r.tag, .int .u16 r.delay, .int .u32 r.height, .int .i64 r.dead, .int .i64 r.budget, .int .i64 r.start, .int .i64 r.fee] 35)) := (Below.refl _ _).alloc (Nat.le_refl _) _
  obtain ⟨X, hX⟩ : ∃ q, q = w.heap.size := ⟨_, rfl⟩
  rw [← hX] at hz ⊢
  generalize w.alloc (.cells #[.int .i64 1, .int .i64 r.num, .int .u32 r.tx.ver, .slice ia n1 ic, .slice oa n2 oc, .int .u32 r.tx.lock, .int .i64 r.index, .string r.id, .int .u32 r.idx, .int .i64 r.val, .int .i64 r.br, .int .u16 r.tag, .int .u16 r.delay, .int .u32 r.height, .int .i64 r.dead, .int .i64 r.budget, .int .i64 r.start, .int .i64 r.fee] 35) = w0 at *
  have HB := hid hal
  have x0 : w0.cell? ⟨X, 0, none⟩ = some (.int .i64 1) := cell_at hz
  have x1 : w0.cell? ⟨X, 1, none⟩ = some (.int .i64 r.num) := cell_at hz
  have x2 : w0.cell? ⟨X, 2, none⟩ = some (.int .u32 r.tx.ver) := cell_at hz
  have x3 : w0.cell? ⟨X, 3, none⟩ = some (.slice ia n1 ic) := cell_at hz
  have x4 : w0.cell? ⟨X, 4, none⟩ = some (.slice oa n2 oc) := cell_at hz
  have x5 : w0.cell? ⟨X, 5, none⟩ = some (.int .u32 r.tx.lock) := cell_at hz
  have x6 : w0.cell? ⟨X, 6, none⟩ = some (.int .i64 r.index) := cell_at hz
  have x10 : w0.cell? ⟨X, 10, none⟩ = some (.int .i64 r.br) := cell_at hz
  have x11 : w0.cell? ⟨X, 11, none⟩ = some (.int .u16 r.tag) := cell_at hz
  have x12 : w0.cell? ⟨X, 12, none⟩ = some (.int .u16 r.delay) := cell_at hz
  have x13 : w0.cell? ⟨X, 13, none⟩ = some (.int .u32 r.height) := cell_at hz
  have x14 : w0.cell? ⟨X, 14, none⟩ = some (.int .i64 r.dead) := cell_at hz
  have x15 : w0.cell? ⟨X, 15, none⟩ = some (.int .i64 r.budget) := cell_at hz
  have x16 : w0.cell? ⟨X, 16, none⟩ = some (.int .i64 r.start) := cell_at hz
  clear hz hal hX
  go_wp2_with fail
  refine (Hp1.out w0).mono ?_
  rintro e w1 ⟨rfl, hb⟩
  replace x0 := below_cells hb _ _ x0
  replace x1 := below_cells hb _ _ x1
  replace x2 := below_cells hb _ _ x2
  replace x3 := below_cells hb _ _ x3
  replace x4 := below_cells hb _ _ x4
  replace x5 := below_cells hb _ _ x5
  replace x6 := below_cells hb _ _ x6
  replace x10 := below_cells hb _ _ x10
  replace x11 := below_cells hb _ _ x11
  replace x12 := below_cells hb _ _ x12
  replace x13 := below_cells hb _ _ x13
  replace x14 := below_cells hb _ _ x14
  replace x15 := below_cells hb _ _ x15
  replace x16 := below_cells hb _ _ x16
  have HB := hid (HB.out.trans (hb.mono HB.out.size))
  clear hb
  go_wp2_with fail
  refine (Hp2.out w1).mono ?_
  rintro e w2 ⟨rfl, hb⟩
  replace x0 := below_cells hb _ _ x0
  replace x1 := below_cells hb _ _ x1
  replace x2 := below_cells hb _ _ x2
  replace x3 := below_cells hb _ _ x3
  replace x4 := below_cells hb _ _ x4
  replace x5 := below_cells hb _ _ x5
  replace x6 := below_cells hb _ _ x6
  replace x10 := below_cells hb _ _ x10
  replace x11 := below_cells hb _ _ x11
  replace x12 := below_cells hb _ _ x12
  replace x13 := below_cells hb _ _ x13
  replace x14 := below_cells hb _ _ x14
  replace x15 := below_cells hb _ _ x15
  replace x16 := below_cells hb _ _ x16
  have HB := hid (HB.out.trans (hb.mono HB.out.size))
  clear hb
  go_wp2_with fail
  refine (HEN.out w2 HB.out).mono ?_
  rintro e w3 ⟨rfl, hb⟩
  replace x0 := below_cells hb _ _ x0
  replace x1 := below_cells hb _ _ x1
  replace x2 := below_cells hb _ _ x2
  replace x3 := below_cells hb _ _ x3
  replace x4 := below_cells hb _ _ x4
  replace x5 := below_cells hb _ _ x5
  replace x6 := below_cells hb _ _ x6
  replace x10 := below_cells hb _ _ x10
  replace x11 := below_cells hb _ _ x11
  replace x12 := below_cells hb _ _ x12
  replace x13 := below_cells hb _ _ x13
  replace x14 := below_cells hb _ _ x14
  replace x15 := below_cells hb _ _ x15
  replace x16 := below_cells hb _ _ x16
  have HB := hid (HB.out.trans (hb.mono HB.out.size))
  clear hb
  go_wp2_with fail
  refine (Hv.out w3).mono ?_
  rintro e w4 ⟨rfl, hb⟩
  replace x0 := below_cells hb _ _ x0
  replace x1 := below_cells hb _ _ x1
  replace x2 := below_cells hb _ _ x2
  replace x3 := below_cells hb _ _ x3
  replace x4 := below_cells hb _ _ x4
  replace x5 := below_cells hb _ _ x5
  replace x6 := below_cells hb _ _ x6
  replace x10 := below_cells hb _ _ x10
  replace x11 := below_cells hb _ _ x11
  replace x12 := below_cells hb _ _ x12
  replace x13 := below_cells hb _ _ x13
  replace x14 := below_cells hb _ _ x14
  replace x15 := below_cells hb _ _ x15
  replace x16 := below_cells hb _ _ x16
  have HB := hid (HB.out.trans (hb.mono HB.out.size))
  clear hb
  go_wp2_with fail
  refine (Hi2.out w4).mono ?_
  rintro e w5 ⟨rfl, hb⟩
  replace x0 := below_cells hb _ _ x0
  replace x1 := below_cells hb _ _ x1
  replace x2 := below_cells hb _ _ x2
  replace x3 := below_cells hb _ _ x3
  replace x4 := below_cells hb _ _ x4
  replace x5 := below_cells hb _ _ x5
  replace x6 := below_cells hb _ _ x6
  replace x10 := below_cells hb _ _ x10
  replace x11 := below_cells hb _ _ x11
  replace x12 := below_cells hb _ _ x12
  replace x13 := below_cells hb _ _ x13
  replace x14 := below_cells hb _ _ x14
  replace x15 := below_cells hb _ _ x15
  replace x16 := below_cells hb _ _ x16
  have HB := hid (HB.out.trans (hb.mono HB.out.size))
  clear hb
  go_wp2_with fail
  refine (Hb1.out w5).mono ?_
  rintro e w6 ⟨rfl, hb⟩
  replace x0 := below_cells hb _ _ x0
  replace x1 := below_cells hb _ _ x1
  replace x2 := below_cells hb _ _ x2
  replace x3 := below_cells hb _ _ x3
  replace x4 := below_cells hb _ _ x4
  replace x5 := below_cells hb _ _ x5
  replace x6 := below_cells hb _ _ x6
  replace x10 := below_cells hb _ _ x10
  replace x11 := below_cells hb _ _ x11
  replace x12 := below_cells hb _ _ x12
  replace x13 := below_cells hb _ _ x13
  replace x14 := below_cells hb _ _ x14
  replace x15 := below_cells hb _ _ x15
  replace x16 := below_cells hb _ _ x16
  have HB := hid (HB.out.trans (hb.mono HB.out.size))
  clear hb
  go_wp2_with fail
  refine (Hg2.out w6).mono ?_
  rintro e w7 ⟨rfl, hb⟩
  replace x0 := below_cells hb _ _ x0
  replace x1 := below_cells hb _ _ x1
  replace x2 := below_cells hb _ _ x2
  replace x3 := below_cells hb _ _ x3
  replace x4 := below_cells hb _ _ x4
  replace x5 := below_cells hb _ _ x5
  replace x6 := below_cells hb _ _ x6
  replace x10 := below_cells hb _ _ x10
  replace x11 := below_cells hb _ _ x11
  replace x12 := below_cells hb _ _ x12
  replace x13 := below_cells hb _ _ x13
  replace x14 := below_cells hb _ _ x14
  replace x15 := below_cells hb _ _ x15
  replace x16 := below_cells hb _ _ x16
  have HB := hid (HB.out.trans (hb.mono HB.out.size))
  clear hb
  go_wp2_with fail
  refine (Hd2.out w7).mono ?_
  rintro e w8 ⟨rfl, hb⟩
  replace x0 := below_cells hb _ _ x0
  replace x1 := below_cells hb _ _ x1
  replace x2 := below_cells hb _ _ x2
  replace x3 := below_cells hb _ _ x3
  replace x4 := below_cells hb _ _ x4
  replace x5 := below_cells hb _ _ x5
  replace x6 := below_cells hb _ _ x6
  replace x10 := below_cells hb _ _ x10
  replace x11 := below_cells hb _ _ x11
  replace x12 := below_cells hb _ _ x12
  replace x13 := below_cells hb _ _ x13
  replace x14 := below_cells hb _ _ x14
  replace x15 := below_cells hb _ _ x15
  replace x16 := below_cells hb _ _ x16
  have HB := hid (HB.out.trans (hb.mono HB.out.size))
  clear hb
  go_wp2_with fail
  refine (Hh4.out w8).mono ?_
  rintro e w9 ⟨rfl, hb⟩
  replace x0 := below_cells hb _ _ x0
  replace x1 := below_cells hb _ _ x1
  replace x2 := below_cells hb _ _ x2
  replace x3 := below_cells hb _ _ x3
  replace x4 := below_cells hb _ _ x4
  replace x5 := below_cells hb _ _ x5
  replace x6 := below_cells hb _ _ x6
  replace x10 := below_cells hb _ _ x10
  replace x11 := below_cells hb _ _ x11
  replace x12 := below_cells hb _ _ x12
  replace x13 := below_cells hb _ _ x13
  replace x14 := below_cells hb _ _ x14
  replace x15 := below_cells hb _ _ x15
  replace x16 := below_cells hb _ _ x16
  have HB := hid (HB.out.trans (hb.mono HB.out.size))
  clear hb
  go_wp2_with fail
  refine (He4.out w9).mono ?_
  rintro e w10 ⟨rfl, hb⟩
  replace x0 := below_cells hb _ _ x0
  replace x1 := below_cells hb _ _ x1
  replace x2 := below_cells hb _ _ x2
  replace x3 := below_cells hb _ _ x3
  replace x4 := below_cells hb _ _ x4
  replace x5 := below_cells hb _ _ x5
  replace x6 := below_cells hb _ _ x6
  replace x10 := below_cells hb _ _ x10
  replace x11 := below_cells hb _ _ x11
  replace x12 := below_cells hb _ _ x12
  replace x13 := below_cells hb _ _ x13
  replace x14 := below_cells hb _ _ x14
  replace x15 := below_cells hb _ _ x15
  replace x16 := below_cells hb _ _ x16
  have HB := hid (HB.out.trans (hb.mono HB.out.size))
  clear hb
  go_wp2_with fail
  refine (Hm8.out w10).mono ?_
  rintro e w11 ⟨rfl, hb⟩
  replace x0 := below_cells hb _ _ x0
  replace x1 := below_cells hb _ _ x1
  replace x2 := below_cells hb _ _ x2
  replace x3 := below_cells hb _ _ x3
  replace x4 := below_cells hb _ _ x4
  replace x5 := below_cells hb _ _ x5
  replace x6 := below_cells hb _ _ x6
  replace x10 := below_cells hb _ _ x10
  replace x11 := below_cells hb _ _ x11
  replace x12 := below_cells hb _ _ x12
  replace x13 := below_cells hb _ _ x13
  replace x14 := below_cells hb _ _ x14
  replace x15 := below_cells hb _ _ x15
  replace x16 := below_cells hb _ _ x16
  have HB := hid (HB.out.trans (hb.mono HB.out.size))
  clear hb
  go_wp2_with fail
  refine (Hs4.out w11).mono ?_
  rintro e w12 ⟨rfl, hb⟩
  replace x0 := below_cells hb _ _ x0
  replace x1 := below_cells hb _ _ x1
  replace x2 := below_cells hb _ _ x2
  replace x3 := below_cells hb _ _ x3
  replace x4 := below_cells hb _ _ x4
  replace x5 := below_cells hb _ _ x5
  replace x6 := below_cells hb _ _ x6
  replace x10 := below_cells hb _ _ x10
  replace x11 := below_cells hb _ _ x11
  replace x12 := below_cells hb _ _ x12
  replace x13 := below_cells hb _ _ x13
  replace x14 := below_cells hb _ _ x14
  replace x15 := below_cells hb _ _ x15
  replace x16 := below_cells hb _ _ x16
  have HB := hid (HB.out.trans (hb.mono HB.out.size))
  clear hb
  go_wp2_with fail
  go_ret
  exact ⟨congrArg (fun s => Ending.returned (.string s)) HS.out, HB.out⟩
end Go.Proofs.YtaooibocknemkaaGreat
end

section
namespace Go.Proofs.YtaooibocknemkaaGreat
open Go.RowKit Go.BigFrame
set_option linter.unusedVariables false
set_option linter.unusedSimpArgs false
theorem payload26_any (v1 : Value) (r : PRec) (w : World) (h1 : RecAt w v1 r) (hk : kinded r) (hg : Ranged r) : Calls Tryz.prog 47 #[v1] w (SIs (payL r) w) := by
  by_cases k1 : r.kind = 1
  · exact pay26_k1 v1 r w h1 hg k1
  by_cases k2 : r.kind = 2
  · exact pay26_k2 v1 r w h1 hg k2
  by_cases k3 : r.kind = 3
  · exact pay26_k3 v1 r w h1 hg k3
  by_cases k4 : r.kind = 4
  · exact pay26_k4 v1 r w h1 hg k4
  exact pay26_k5 v1 r w h1 hg (by have := hk.1; have := hk.2; omega)
end Go.Proofs.YtaooibocknemkaaGreat
end

section
namespace Go.Proofs.YtaooibocknemkaaGreat
open Go.RowKit Go.BigFrame
set_option linter.unusedVariables false
set_option linter.unusedSimpArgs false

/-! ### many stores into one block -/
def stores (w : World) (b : Nat) : List (Nat × Value) → World
  | [] => w
  | p :: l => stores (w.setCell ⟨b, p.1, none⟩ p.2) b l
def storesA (cs : Array Value) : List (Nat × Value) → Array Value
  | [] => cs
  | p :: l => storesA (cs.setIfInBounds p.1 p.2) l
theorem stores_spec {b : Nat} {ty : TypeId} : ∀ (l : List (Nat × Value)) {w : World} {cs : Array Value}, w.heap[b]? = some (.cells cs ty (0, 0)) →
    (stores w b l).heap[b]? = some (.cells (storesA cs l) ty (0, 0)) ∧ (∀ c, c ≠ b → (stores w b l).heap[c]? = w.heap[c]?) ∧ ∀ B, B ≤ b → Below B w (stores w b l)
  | [], w, cs, h => ⟨h, fun _ _ => rfl, fun B _ => Below.refl B w⟩
  | p :: l, w, cs, h => by
    obtain ⟨h1, h2, h3⟩ := stores_spec l (heap_setCell_at (j := p.1) (u := p.2) h)
    refine ⟨h1, fun c hc => (h2 c hc).trans (Below.heap_setCell _ _ _ _ hc), fun B hB => ?_⟩
    exact ((Below.refl B w).setCell (p := ⟨b, p.1, none⟩) hB _).trans (h3 B hB)
theorem drew_heap {w : World} {b : Nat} {ob : Obj} (h : w.heap[b]? = some ob) : w.drew.heap[b]? = some ob := h
theorem slin_nil (w : World) : SlAt rpIn w (.slice none 0 0) [] := ⟨none, 0, rfl, Nat.le_refl _, Nat.zero_le _, fun i x hi => by simp at hi⟩
theorem slout_nil (w : World) : SlAt rpOut w (.slice none 0 0) [] := ⟨none, 0, rfl, Nat.le_refl _, Nat.zero_le _, fun i x hi => by simp at hi⟩
theorem z32 : (0 : Nat) < 4294967296 := by decide
theorem z16 : (0 : Nat) < 65536 := by decide
theorem zid : ByteArray.empty.size ≤ 9223372036854775807 := by decide
theorem i64R0 : i64R 0 := ⟨by decide, by decide⟩
theorem ownR_ok {r : PRec} (h : r.Ok) : (ownR r).Ok := by
  have z := i64R0
  unfold ownR noRec
  split
  · exact ⟨h.kind, h.num, h.ver, h.lock, h.index, zid, z32, z, h.br, h.tag, h.delay, h.height, h.dead, h.budget, h.start, z⟩
  · split
    · exact ⟨h.kind, h.num, z32, z32, z, h.id, h.idx, h.val, h.br, h.tag, h.delay, h.height, h.dead, h.budget, h.start, z⟩
    · split
      · exact ⟨h.kind, h.num, z32, z32, z, h.id, h.idx, z, z, z16, z16, z32, z, z, z, z⟩
      · split
        · exact ⟨h.kind, h.num, z32, z32, h.index, h.id, h.idx, z, z, z16, z16, z32, z, z, z, h.fee⟩
        · exact ⟨h.kind, h.num, z32, z32, z, zid, z32, z, z, z16, z16, z32, z, z, z, z⟩
def PlainP (r : PRec) (b : Bool) (w : World) (e : Ending) (w' : World) : Prop := ∃ v, e = .returned (.tuple #[v, .bool b]) ∧ RecAt w' v r ∧ Below w.heap.size w w'
theorem below_rowE {B g : Nat} {w0 w : World} (hb : Below B w0 w) (hBg : B ≤ g) (cs : Array Value) : Below B w0 (w.setRow g cs) :=
  ⟨hb.os, hb.tape, hb.output, by rw [setRow_size]; exact hb.size, fun k hk => by rw [setRow_other _ _ _ _ (by omega)]; exact hb.block k hk⟩
theorem box3 (w : World) (X : Nat) (hX : X = w.heap.size) (A B C D : Array Value) (t : TypeId) : (((w.alloc (.cells A t)).alloc (.cells B t)).alloc (.cells C t)).heap[X + 1 + 1]? = some (.cells C t (0, 0)) ∧
    ((((w.alloc (.cells A t)).alloc (.cells B t)).alloc (.cells C t)).setRow (X + 1 + 1) D).heap[X]? = some (.cells A t (0, 0)) ∧
    ((((w.alloc (.cells A t)).alloc (.cells B t)).alloc (.cells C t)).setRow (X + 1 + 1) D).heap[X + 1]? = some (.cells B t (0, 0)) ∧
    ((((w.alloc (.cells A t)).alloc (.cells B t)).alloc (.cells C t)).setRow (X + 1 + 1) D).heap[X + 1 + 1]? = some (.cells D t (0, 0)) ∧
    Below w.heap.size w ((((w.alloc (.cells A t)).alloc (.cells B t)).alloc (.cells C t)).setRow (X + 1 + 1) D) := by
  obtain ⟨hz0, hz1, hz2, hal⟩ := new3 w X hX (.cells A t) (.cells B t) (.cells C t)
  exact ⟨hz2, (setRow_other _ _ _ _ (by omega)).trans hz0, (setRow_other _ _ _ _ (by omega)).trans hz1, setRow_heap _ _ _ _ _ _ hz2, below_rowE hal (by omega) _⟩
theorem results_cell_tmp {P : Program} {fn : Func} {p q : Tmp} {ty : TypeId} (h : fn.results = #[.cell p ty, .tmp q]) (tmps : Array Value) (w : World) (g : Nat) (t : TypeId) (cs : Array Value) (fr : Nat × Nat) (d : TypeDesc) (u : Value)
    (hp : tmps.getD p undef = .pointer (some ⟨g, 0, none⟩)) (hu2 : tmps.getD q undef = u) (hg : w.heap[g]? = some (.cells cs t fr))
    (hu : P.underlying ty = some d) (hd : (match d with | .struct _ | .array _ _ => true | _ => false) = true) (hi : (P.info? ty).map (·.size) = some cs.size) :
    (results fn tmps).run P w = .ok (.tuple #[.agg cs, u]) w := by
  have hp' : tmps[p]?.getD undef = .pointer (some ⟨g, 0, none⟩) := by simpa using hp
  have hq' : tmps[q]?.getD undef = u := by simpa using hu2
  simp [results, h, hp', hq', asAddr, run_loadVar_row w g t ty cs fr d hg hu hd hi]
end Go.Proofs.YtaooibocknemkaaGreat
end

section
namespace Go.Proofs.YtaooibocknemkaaGreat
open Go.RowKit Go.BigFrame
open Go.Lib (hid)
set_option linter.unusedVariables false
set_option linter.unusedSimpArgs false
set_option maxRecDepth 100000 in
set_option maxHeartbeats 8000000 in
theorem plain_k1 (v1 : Value) (r : PRec) (w : World) (h1 : RecAt w v1 r) (hk : r.kind = 1) : Calls Tryz.prog 45 #[v1] w (PlainP (ownR r) (decide (1 ≤ r.kind ∧ r.kind ≤ 5)) w) := by
  obtain ⟨va, vb, rfl, hi1, ho1, hk1⟩ := h1
  have HI := hid hi1
  have HO := hid ho1
  have HK := hid (ownR_ok hk1)
  obtain ⟨ia, ic, rfl, -, -⟩ := hi1.shape
  obtain ⟨oa, oc, rfl, -, -⟩ := ho1.shape
  obtain ⟨n1, hn1⟩ : ∃ n, n = r.tx.ins.length := ⟨_, rfl⟩
  obtain ⟨n2, hn2⟩ : ∃ n, n = r.tx.outs.length := ⟨_, rfl⟩
  rw [← hn1, ← hn2]
  rw [← hn1] at HI
  rw [← hn2] at HO
  clear hn1 hn2 hi1 ho1 hk1
  obtain ⟨kb, hkb⟩ : ∃ kb, kb = decide (1 ≤ r.kind ∧ r.kind ≤ 5) := ⟨_, rfl⟩
  rw [← hkb]
  have HKB := hid hkb
  clear hkb
  obtain ⟨X, hX⟩ : ∃ q, q = w.heap.size := ⟨_, rfl⟩
  obtain ⟨hz2, hy0, hy1, hy2, hal⟩ := box3 w X hX #[.int .i64 r.kind, .int .i64 r.num, .int .u32 r.tx.ver, .slice ia n1 ic, .slice oa n2 oc, .int .u32 r.tx.lock, .int .i64 r.index, .string r.id, .int .u32 r.idx, .int .i64 r.val, .int .i64 r.br, .int .u16 r.tag, .int .u16 r.delay, .int .u32 r.height, .int .i64 r.dead, .int .i64 r.budget, .int .i64 r.start, .int .i64 r.fee] #[.int .i64 0, .int .i64 0, .int .u32 0, .slice none 0 0, .slice none 0 0, .int .u32 0, .int .i64 0, .string ⟨#[]⟩, .int .u32 0, .int .i64 0, .int .i64 0, .int .u16 0, .int .u16 0, .int .u32 0, .int .i64 0, .int .i64 0, .int .i64 0, .int .i64 0] #[.int .i64 0, .int .i64 0, .int .u32 0, .slice none 0 0, .slice none 0 0, .int .u32 0, .int .i64 0, .string ⟨#[]⟩, .int .u32 0, .int .i64 0, .int .i64 0, .int .u16 0, .int .u16 0, .int .u32 0, .int .i64 0, .int .i64 0, .int .i64 0, .int .i64 0] #[.int .i64 r.kind, .int .i64 r.num, .int .u32 0, .slice none 0 0, .slice none 0 0, .int .u32 0, .int .i64 0, .string ⟨#[]⟩, .int .u32 0, .int .i64 0, .int .i64 0, .int .u16 0, .int .u16 0, .int .u32 0, .int .i64 0, .int .i64 0, .int .i64 0, .int .i64 0] 35
  have HN2 := hid hz2
  have HZ0 := hid hy0
  have HZ1 := hid hy1
  have HZ2 := hid hy2
  have HB := hid hal
  have HX := hid hX
  clear hz2 hy0 hy1 hy2 hal hX
  have HKK := hid hk
  have c1 : (r.kind == 1) = true := by rw [beq_iff_eq]; exact hk
  clear hk
  go_enter Tryz.func45, Tryz.ntmps45
  go_upto_region 2 with (refine wpList_store_row rfl 35 (.tmp 4) (.tmp 9) rfl (X + 1 + 1) #[.int .i64 r.kind, .int .i64 r.num, .int .u32 0, .slice none 0 0, .slice none 0 0, .int .u32 0, .int .i64 0, .string ⟨#[]⟩, .int .u32 0, .int .i64 0, .int .i64 0, .int .u16 0, .int .u16 0, .int .u32 0, .int .i64 0, .int .i64 0, .int .i64 0, .int .i64 0] (by rw [HX.out]; rfl) rfl 35 _ HN2.out (by kernel_rfl) rfl (by kernel_rfl) ?_)
  rw [← HX.out]
  generalize World.setRow _ (X + 1 + 1) #[.int .i64 r.kind, .int .i64 r.num, .int .u32 0, .slice none 0 0, .slice none 0 0, .int .u32 0, .int .i64 0, .string ⟨#[]⟩, .int .u32 0, .int .i64 0, .int .i64 0, .int .u16 0, .int .u16 0, .int .u32 0, .int .i64 0, .int .i64 0, .int .i64 0, .int .i64 0] = w0 at *
  clear HN2
  have x0 : w0.cell? ⟨X, 0, none⟩ = some (.int .i64 r.kind) := cell_at HZ0.out
  have x2 : w0.cell? ⟨X, 2, none⟩ = some (.int .u32 r.tx.ver) := cell_at HZ0.out
  have x3 : w0.cell? ⟨X, 3, none⟩ = some (.slice ia n1 ic) := cell_at HZ0.out
  have x4 : w0.cell? ⟨X, 4, none⟩ = some (.slice oa n2 oc) := cell_at HZ0.out
  have x5 : w0.cell? ⟨X, 5, none⟩ = some (.int .u32 r.tx.lock) := cell_at HZ0.out
  have x6 : w0.cell? ⟨X, 6, none⟩ = some (.int .i64 r.index) := cell_at HZ0.out
  have y2 : w0.cell? ⟨X + 1 + 1, 2, none⟩ = some (.int .u32 0) := cell_at HZ2.out
  have y3 : w0.cell? ⟨X + 1 + 1, 3, none⟩ = some (.slice none 0 0) := cell_at HZ2.out
  have y4 : w0.cell? ⟨X + 1 + 1, 4, none⟩ = some (.slice none 0 0) := cell_at HZ2.out
  have y5 : w0.cell? ⟨X + 1 + 1, 5, none⟩ = some (.int .u32 0) := cell_at HZ2.out
  have y6 : w0.cell? ⟨X + 1 + 1, 6, none⟩ = some (.int .i64 0) := cell_at HZ2.out
  have f2 : w0.frozen? ⟨X + 1 + 1, 2, none⟩ = false := free_at HZ2.out
  have f3 : w0.frozen? ⟨X + 1 + 1, 3, none⟩ = false := free_at HZ2.out
  have f4 : w0.frozen? ⟨X + 1 + 1, 4, none⟩ = false := free_at HZ2.out
  have f5 : w0.frozen? ⟨X + 1 + 1, 5, none⟩ = false := free_at HZ2.out
  have f6 : w0.frozen? ⟨X + 1 + 1, 6, none⟩ = false := free_at HZ2.out
  go_upto_region 5 with fail
  go_region
  change Exit.then _ _ _ _ (World.drew (stores w0 (X + 1 + 1) [(2, .int .u32 r.tx.ver), (3, .slice ia n1 ic), (4, .slice oa n2 oc), (5, .int .u32 r.tx.lock), (6, .int .i64 r.index)]))
  obtain ⟨s1, s2, s3⟩ := stores_spec [(2, .int .u32 r.tx.ver), (3, .slice ia n1 ic), (4, .slice oa n2 oc), (5, .int .u32 r.tx.lock), (6, .int .i64 r.index)] HZ2.out
  have HZ0 := hid ((s2 X (by omega)).trans HZ0.out)
  have HZ1 := hid ((s2 (X + 1) (by omega)).trans HZ1.out)
  have HZ2 := hid (show (stores w0 (X + 1 + 1) [(2, .int .u32 r.tx.ver), (3, .slice ia n1 ic), (4, .slice oa n2 oc), (5, .int .u32 r.tx.lock), (6, .int .i64 r.index)]).heap[X + 1 + 1]? = some (.cells #[.int .i64 r.kind, .int .i64 r.num, .int .u32 r.tx.ver, .slice ia n1 ic, .slice oa n2 oc, .int .u32 r.tx.lock, .int .i64 r.index, .string ⟨#[]⟩, .int .u32 0, .int .i64 0, .int .i64 0, .int .u16 0, .int .u16 0, .int .u32 0, .int .i64 0, .int .i64 0, .int .i64 0, .int .i64 0] 35 (0, 0)) from s1)
  have HB := hid (HB.out.trans (s3 w.heap.size (by have := HX.out; omega)))
  clear s1 s2 s3 x2 y2 f2 x3 y3 f3 x4 y4 f4 x5 y5 f5 x6 y6 f6
  have HZ0 := hid (drew_heap HZ0.out)
  have HZ1 := hid (drew_heap HZ1.out)
  have HZ2 := hid (drew_heap HZ2.out)
  have HB := hid HB.out.drew
  generalize World.drew (stores w0 (X + 1 + 1) [(2, .int .u32 r.tx.ver), (3, .slice ia n1 ic), (4, .slice oa n2 oc), (5, .int .u32 r.tx.lock), (6, .int .i64 r.index)]) = w1 at *
  clear x0
  have x10 : w1.cell? ⟨X, 10, none⟩ = some (.int .i64 r.br) := cell_at HZ0.out
  have x11 : w1.cell? ⟨X, 11, none⟩ = some (.int .u16 r.tag) := cell_at HZ0.out
  have x12 : w1.cell? ⟨X, 12, none⟩ = some (.int .u16 r.delay) := cell_at HZ0.out
  have x13 : w1.cell? ⟨X, 13, none⟩ = some (.int .u32 r.height) := cell_at HZ0.out
  have x14 : w1.cell? ⟨X, 14, none⟩ = some (.int .i64 r.dead) := cell_at HZ0.out
  have y10 : w1.cell? ⟨X + 1 + 1, 10, none⟩ = some (.int .i64 0) := cell_at HZ2.out
  have y11 : w1.cell? ⟨X + 1 + 1, 11, none⟩ = some (.int .u16 0) := cell_at HZ2.out
  have y12 : w1.cell? ⟨X + 1 + 1, 12, none⟩ = some (.int .u16 0) := cell_at HZ2.out
  have y13 : w1.cell? ⟨X + 1 + 1, 13, none⟩ = some (.int .u32 0) := cell_at HZ2.out
  have y14 : w1.cell? ⟨X + 1 + 1, 14, none⟩ = some (.int .i64 0) := cell_at HZ2.out
  have f10 : w1.frozen? ⟨X + 1 + 1, 10, none⟩ = false := free_at HZ2.out
  have f11 : w1.frozen? ⟨X + 1 + 1, 11, none⟩ = false := free_at HZ2.out
  have f12 : w1.frozen? ⟨X + 1 + 1, 12, none⟩ = false := free_at HZ2.out
  have f13 : w1.frozen? ⟨X + 1 + 1, 13, none⟩ = false := free_at HZ2.out
  have f14 : w1.frozen? ⟨X + 1 + 1, 14, none⟩ = false := free_at HZ2.out
  go_upto_region 6 with fail
  go_region
  change Exit.then _ _ _ _ (World.drew (stores w1 (X + 1 + 1) [(10, .int .i64 r.br), (11, .int .u16 r.tag), (12, .int .u16 r.delay), (13, .int .u32 r.height), (14, .int .i64 r.dead)]))
  obtain ⟨s1, s2, s3⟩ := stores_spec [(10, .int .i64 r.br), (11, .int .u16 r.tag), (12, .int .u16 r.delay), (13, .int .u32 r.height), (14, .int .i64 r.dead)] HZ2.out
  have HZ0 := hid ((s2 X (by omega)).trans HZ0.out)
  have HZ1 := hid ((s2 (X + 1) (by omega)).trans HZ1.out)
  have HZ2 := hid (show (stores w1 (X + 1 + 1) [(10, .int .i64 r.br), (11, .int .u16 r.tag), (12, .int .u16 r.delay), (13, .int .u32 r.height), (14, .int .i64 r.dead)]).heap[X + 1 + 1]? = some (.cells #[.int .i64 r.kind, .int .i64 r.num, .int .u32 r.tx.ver, .slice ia n1 ic, .slice oa n2 oc, .int .u32 r.tx.lock, .int .i64 r.index, .string ⟨#[]⟩, .int .u32 0, .int .i64 0, .int .i64 r.br, .int .u16 r.tag, .int .u16 r.delay, .int .u32 r.height, .int .i64 r.dead, .int .i64 0, .int .i64 0, .int .i64 0] 35 (0, 0)) from s1)
  have HB := hid (HB.out.trans (s3 w.heap.size (by have := HX.out; omega)))
  clear s1 s2 s3 x10 y10 f10 x11 y11 f11 x12 y12 f12 x13 y13 f13 x14 y14 f14
  have HZ0 := hid (drew_heap HZ0.out)
  have HZ1 := hid (drew_heap HZ1.out)
  have HZ2 := hid (drew_heap HZ2.out)
  have HB := hid HB.out.drew
  generalize World.drew (stores w1 (X + 1 + 1) [(10, .int .i64 r.br), (11, .int .u16 r.tag), (12, .int .u16 r.delay), (13, .int .u32 r.height), (14, .int .i64 r.dead)]) = w2 at *
  have x15 : w2.cell? ⟨X, 15, none⟩ = some (.int .i64 r.budget) := cell_at HZ0.out
  have x16 : w2.cell? ⟨X, 16, none⟩ = some (.int .i64 r.start) := cell_at HZ0.out
  have y15 : w2.cell? ⟨X + 1 + 1, 15, none⟩ = some (.int .i64 0) := cell_at HZ2.out
  have y16 : w2.cell? ⟨X + 1 + 1, 16, none⟩ = some (.int .i64 0) := cell_at HZ2.out
  have f15 : w2.frozen? ⟨X + 1 + 1, 15, none⟩ = false := free_at HZ2.out
  have f16 : w2.frozen? ⟨X + 1 + 1, 16, none⟩ = false := free_at HZ2.out
  go_upto_region 7 with fail
  go_region
  change Exit.inBlock _ _ _ _ (World.drew (stores w2 (X + 1 + 1) [(15, .int .i64 r.budget), (16, .int .i64 r.start)]))
  obtain ⟨s1, s2, s3⟩ := stores_spec [(15, .int .i64 r.budget), (16, .int .i64 r.start)] HZ2.out
  have HZ0 := hid ((s2 X (by omega)).trans HZ0.out)
  have HZ1 := hid ((s2 (X + 1) (by omega)).trans HZ1.out)
  have HZ2 := hid (show (stores w2 (X + 1 + 1) [(15, .int .i64 r.budget), (16, .int .i64 r.start)]).heap[X + 1 + 1]? = some (.cells #[.int .i64 r.kind, .int .i64 r.num, .int .u32 r.tx.ver, .slice ia n1 ic, .slice oa n2 oc, .int .u32 r.tx.lock, .int .i64 r.index, .string ⟨#[]⟩, .int .u32 0, .int .i64 0, .int .i64 r.br, .int .u16 r.tag, .int .u16 r.delay, .int .u32 r.height, .int .i64 r.dead, .int .i64 r.budget, .int .i64 r.start, .int .i64 0] 35 (0, 0)) from s1)
  have HB := hid (HB.out.trans (s3 w.heap.size (by have := HX.out; omega)))
  clear s1 s2 s3 x15 y15 f15 x16 y16 f16
  have HZ0 := hid (drew_heap HZ0.out)
  have HZ1 := hid (drew_heap HZ1.out)
  have HZ2 := hid (drew_heap HZ2.out)
  have HB := hid HB.out.drew
  generalize World.drew (stores w2 (X + 1 + 1) [(15, .int .i64 r.budget), (16, .int .i64 r.start)]) = w3 at *
  have hz2 := HZ2.out
  have hz1 := HZ1.out
  obtain ⟨wf, hwf⟩ : ∃ wf, wf = w3.setRow (X + 1) #[.int .i64 r.kind, .int .i64 r.num, .int .u32 r.tx.ver, .slice ia n1 ic, .slice oa n2 oc, .int .u32 r.tx.lock, .int .i64 r.index, .string ⟨#[]⟩, .int .u32 0, .int .i64 0, .int .i64 r.br, .int .u16 r.tag, .int .u16 r.delay, .int .u32 r.height, .int .i64 r.dead, .int .i64 r.budget, .int .i64 r.start, .int .i64 0] := ⟨_, rfl⟩
  have HZ3 := hid (show wf.heap[X + 1]? = some (.cells #[.int .i64 r.kind, .int .i64 r.num, .int .u32 r.tx.ver, .slice ia n1 ic, .slice oa n2 oc, .int .u32 r.tx.lock, .int .i64 r.index, .string ⟨#[]⟩, .int .u32 0, .int .i64 0, .int .i64 r.br, .int .u16 r.tag, .int .u16 r.delay, .int .u32 r.height, .int .i64 r.dead, .int .i64 r.budget, .int .i64 r.start, .int .i64 0] 35 (0, 0)) from hwf ▸ setRow_heap w3 (X + 1) _ _ _ _ HZ1.out)
  have HB := hid (show Below w.heap.size w wf from hwf ▸ below_rowE HB.out (by have := HX.out; omega) _)
  go_upto_region 15 with fail
  go_wp2_with (first
    | (refine wpList_load_row rfl 35 (.tmp 4) rfl (X + 1 + 1) rfl 35 #[.int .i64 r.kind, .int .i64 r.num, .int .u32 r.tx.ver, .slice ia n1 ic, .slice oa n2 oc, .int .u32 r.tx.lock, .int .i64 r.index, .string ⟨#[]⟩, .int .u32 0, .int .i64 0, .int .i64 r.br, .int .u16 r.tag, .int .u16 r.delay, .int .u32 r.height, .int .i64 r.dead, .int .i64 r.budget, .int .i64 r.start, .int .i64 0] (0, 0) _ hz2 Tryz.underlying35 rfl (by kernel_rfl) ?_)
    | (refine wpList_store_row rfl 35 (.tmp 2) (.tmp 75) rfl (X + 1) #[.int .i64 r.kind, .int .i64 r.num, .int .u32 r.tx.ver, .slice ia n1 ic, .slice oa n2 oc, .int .u32 r.tx.lock, .int .i64 r.index, .string ⟨#[]⟩, .int .u32 0, .int .i64 0, .int .i64 r.br, .int .u16 r.tag, .int .u16 r.delay, .int .u32 r.height, .int .i64 r.dead, .int .i64 r.budget, .int .i64 r.start, .int .i64 0] rfl rfl 35 _ hz1 (by kernel_rfl) rfl (by kernel_rfl) ?_; rw [← hwf]))
  try rw [← hwf]
  clear hz2 hz1 hwf HZ2 HZ1 HZ0
  refine bodyPost_ret (v := .tuple #[.agg #[.int .i64 r.kind, .int .i64 r.num, .int .u32 r.tx.ver, .slice ia n1 ic, .slice oa n2 oc, .int .u32 r.tx.lock, .int .i64 r.index, .string ⟨#[]⟩, .int .u32 0, .int .i64 0, .int .i64 r.br, .int .u16 r.tag, .int .u16 r.delay, .int .u32 r.height, .int .i64 r.dead, .int .i64 r.budget, .int .i64 r.start, .int .i64 0], .bool true]) (results_cell_tmp (P := Tryz.prog) (p := 2) (q := 3) (ty := 35) Tryz.results45 _ _ (X + 1) 35 #[.int .i64 r.kind, .int .i64 r.num, .int .u32 r.tx.ver, .slice ia n1 ic, .slice oa n2 oc, .int .u32 r.tx.lock, .int .i64 r.index, .string ⟨#[]⟩, .int .u32 0, .int .i64 0, .int .i64 r.br, .int .u16 r.tag, .int .u16 r.delay, .int .u32 r.height, .int .i64 r.dead, .int .i64 r.budget, .int .i64 r.start, .int .i64 0] (0, 0) _ _ rfl rfl HZ3.out Tryz.underlying35 rfl (by kernel_rfl)) rfl ?_
  have HOW := hid (show ownR r = _ from by unfold ownR; rw [if_pos HKK.out])
  have hok := HK.out
  rw [HOW.out] at hok ⊢
  have hkb := HKB.out
  rw [decide_eq_true (by have := HKK.out; omega)] at hkb
  rw [hkb]
  exact ⟨_, rfl, ⟨_, _, rfl, HI.out.below HB.out, HO.out.below HB.out, hok⟩, HB.out⟩
end Go.Proofs.YtaooibocknemkaaGreat
end

section
namespace Go.Proofs.YtaooibocknemkaaGreat
open Go.RowKit Go.BigFrame
set_option linter.unusedVariables false

/-- Where just the operations of L have been run: the values. -/
structure Vals (R : Nat → List Value → Value → Prop) (l : List Oper) (L : Nat → Prop) (xs : List Value) : Prop where
  len : xs.length = l.length
  closed : ∀ j, L j → ∀ d, (deps l j).contains d = true → L d
  lt : ∀ j, L j → j < l.length
  rel : ∀ j, L j → R j ((deps l j).map fun d => xs.getD d undef) (xs.getD j undef)
section
variable {P : Program} {R : Nat → List Value → Value → Prop} {l : List Oper} {L : Nat → Prop} {xs : List Value}
theorem Vals.step (h : Vals R l L xs) {i : Nat} (hin : i < l.length) (hni : ¬ L i) (hpre : ∀ d, (deps l i).contains d = true → L d) {v : Value} (hr : R i ((deps l i).map fun d => xs.getD d undef) v) :
    Vals R l (fun j => j = i ∨ L j) (xs.set i v) := by
  have hget : ∀ j, L j → (xs.set i v).getD j undef = xs.getD j undef := by
    intro j hj
    have hne : i ≠ j := fun e => hni (e ▸ hj)
    simp [List.getD, List.getElem?_set_ne hne]
  have hself : (xs.set i v).getD i undef = v := by
    have : i < xs.length := by rw [h.len]; exact hin
    simp [List.getD, this]
  have hmap : ∀ j, (j = i ∨ L j) → ((deps l j).map fun d => (xs.set i v).getD d undef) = (deps l j).map fun d => xs.getD d undef := by
    intro j hj
    refine List.map_congr_left fun d hd => hget d ?_
    have hc : (deps l j).contains d = true := by simpa using hd
    rcases hj with rfl | hj
    · exact hpre d hc
    · exact h.closed j hj d hc
  refine ⟨by rw [List.length_set]; exact h.len, ?_, ?_, ?_⟩
  · rintro j (rfl | hj) d hd
    · exact .inr (hpre d hd)
    · exact .inr (h.closed j hj d hd)
  · rintro j (rfl | hj)
    · exact hin
    · exact h.lt j hj
  · rintro j (rfl | hj)
    · rw [hself, hmap j (.inl rfl)]
      exact hr
    · rw [hget j hj, hmap j (.inr hj)]
      exact h.rel j hj

theorem wp_region_vals (R : Nat → List Value → Value → Prop) (W : (Nat → Prop) → World → Prop) {id : Nat} {Q : Exit → Act → World → Prop} {a0 : Act} {w0 : World} (hm : P.follows .mixedOrders = true) (hb : backB .any l.toArray = true)
    (hg : (l.all fun o => o.guard.isNone) = true) (hd : dstB l = true)
    (h0 : W (fun _ => False) w0.drew)
    (hstep : ∀ i o, i < l.length → l[i]? = some o → ∀ (L : Nat → Prop) (xs : List Value) (w : World), Vals R l L xs → W L w → ¬ L i → (∀ d, (deps l i).contains d = true → L d) →
      o.wp P (putAll a0 l xs) w (fun a' w' => ∃ v, a' = (putAll a0 l xs).put o.dst v ∧ R i ((deps l i).map fun d => xs.getD d undef) v ∧ W (fun j => j = i ∨ L j) w') (fun _ _ _ => False))
    (hend : ∀ (xs : List Value) (w : World), Vals R l (fun j => j < l.length) xs → W (fun j => j < l.length) w → Q .normal (putAll a0 l xs) w) :
    (Code.region id l.toArray true).wp P Q a0 w0 := by
  refine wp_region_inv2 (fun L a w => ∃ xs, a = putAll a0 l xs ∧ Vals R l L xs ∧ W L w) hm hb ?_ ?_ ?_
  · refine ⟨(ownVals a0 l).take l.length, (putAll_own l a0 _).symm, ⟨by simp [ownVals], fun _ h => h.elim, fun _ h => h.elim, fun _ h => h.elim⟩, h0⟩
  · rintro L i a w hil hni hpre ⟨xs, rfl, hv, hw⟩
    obtain ⟨o, ho⟩ : ∃ o, l[i]? = some o := ⟨_, List.getElem?_eq_getElem hil⟩
    have hoa : l.toArray[i]? = some o := by simpa using ho
    have hgo : o.guard = none := by
      have := List.all_eq_true.1 hg o (List.mem_of_getElem? ho)
      simpa using this
    unfold wpOp
    rw [hoa]
    simp only [Region.wanted, hgo, if_true]
    refine .inl (wp_weaken ?_ (fun _ _ _ h => h.elim) (fun ⟨_, _, h⟩ => h.elim) (hstep i o hil ho L xs w hv hw hni hpre))
    rintro a' w' ⟨v, rfl, hr, hw'⟩
    rw [putAll_put l xs a0 i o v hd ho (by rw [hv.len]; exact hil)]
    exact ⟨_, rfl, hv.step hil hni hpre hr, hw'⟩
  · rintro L a w hall ⟨xs, rfl, hv, hw⟩
    have he : L = fun j => j < l.length := by
      funext j
      exact propext ⟨hv.lt j, hall j⟩
    subst he
    exact hend xs w hv hw
/-- One operation whose run is known. -/
theorem vstep_run {R : Nat → List Value → Value → Prop} {W : (Nat → Prop) → World → Prop} {L : Nat → Prop} {o : Oper} {a : Act} {w w' : World} {i : Nat} (v : Value) (hrun : (execOp a.eval o).run P w = .ok (.value v) w')
    (hr : R i ((deps l i).map fun d => xs.getD d undef) v) (hw : W (fun j => j = i ∨ L j) w') :
    o.wp P a w (fun a' w' => ∃ v, a' = a.put o.dst v ∧ R i ((deps l i).map fun d => xs.getD d undef) v ∧ W (fun j => j = i ∨ L j) w') (fun _ _ _ => False) :=
  opv_run hrun ⟨v, rfl, hr, hw⟩
/-- One that stores. -/
theorem vstep_skip {R : Nat → List Value → Value → Prop} {W : (Nat → Prop) → World → Prop} {L : Nat → Prop} {o : Oper} {a : Act} {w w' : World} {i : Nat} (hrun : (execOp a.eval o).run P w = .ok .skip w')
    (hr : R i ((deps l i).map fun d => xs.getD d undef) undef) (hw : W (fun j => j = i ∨ L j) w') :
    o.wp P a w (fun a' w' => ∃ v, a' = a.put o.dst v ∧ R i ((deps l i).map fun d => xs.getD d undef) v ∧ W (fun j => j = i ∨ L j) w') (fun _ _ _ => False) :=
  op_skip hrun ⟨undef, rfl, hr, hw⟩
end
end Go.Proofs.YtaooibocknemkaaGreat
end

section
namespace Go.Proofs.YtaooibocknemkaaGreat
open Go.RowKit Go.BigFrame
open Go.Lib (hid)
set_option linter.unusedVariables false
set_option linter.unusedSimpArgs false

theorem getN_pt (s : ByteArray) (p k : Nat) : getN s p k = leN (pt s.data.toList p k) := rfl
theorem byteAt_get {s : ByteArray} {p : Nat} (h : p < s.size) : byteAt s.data.toList p = (s[p]'h).toNat := by
  unfold byteAt
  have h1 : p < s.data.toList.length := by rw [data_len]; exact h
  rw [List.getD_eq_getElem?_getD, List.getElem?_eq_getElem h1]
  rfl
theorem kOf_cases (b : Nat) : (kOf b = 0 ∧ b ≠ 253 ∧ b ≠ 254 ∧ b ≠ 255) ∨ (b = 253 ∧ kOf b = 2) ∨ (b = 254 ∧ kOf b = 4) ∨ (b = 255 ∧ kOf b = 8) := by
  unfold kOf
  split
  · exact .inr (.inl ⟨by assumption, rfl⟩)
  · split
    · exact .inr (.inr (.inl ⟨by assumption, rfl⟩))
    · split
      · exact .inr (.inr (.inr ⟨by assumption, rfl⟩))
      · exact .inl ⟨rfl, by assumption, by assumption, by assumption⟩
theorem kOf_ok {b : Nat} (h : kOf b ≠ 0) : okSize (kOf b) := by
  unfold okSize
  rcases kOf_cases b with h1 | h1 | h1 | h1 <;> omega
theorem kOf_le (b : Nat) : kOf b ≤ 8 := by rcases kOf_cases b with h1 | h1 | h1 | h1 <;> omega
theorem getN_lt {s : ByteArray} {p k : Nat} (hk : k ≤ 8) : getN s p k < 18446744073709551616 := by
  have h := leN_lt ((s.data.toList.drop p).take k)
  have h2 : ((s.data.toList.drop p).take k).length ≤ k := by rw [List.length_take]; omega
  have h3 : (256 : Nat) ^ ((s.data.toList.drop p).take k).length ≤ 256 ^ 8 := Nat.pow_le_pow_right (by omega) (by omega)
  unfold getN
  omega
set_option maxHeartbeats 1000000 in
theorem vsize_any (b : Nat) (w : World) : Calls Tryz.prog 168 #[.int .u8 b] w fun e w' => e = .returned (.int .i64 (kOf b)) ∧ w = w' := by
  rcases kOf_cases b with ⟨h, h1, h2, h3⟩ | ⟨rfl, h⟩ | ⟨rfl, h⟩ | ⟨rfl, h⟩
  · have e1 : ((b : Int) == 253) = false := by rw [beq_eq_false_iff_ne]; omega
    have e2 : ((b : Int) == 254) = false := by rw [beq_eq_false_iff_ne]; omega
    have e3 : ((b : Int) == 255) = false := by rw [beq_eq_false_iff_ne]; omega
    rw [h]
    clear h h1 h2 h3
    go_enter Tryz.func168, Tryz.ntmps168
    go_wp2
    go_ret
    exact ⟨rfl, rfl⟩
  all_goals
    go_enter Tryz.func168, Tryz.ntmps168
    go_wp2
    go_ret
    exact ⟨rfl, rfl⟩
def VIs (r : Nat × Nat × Int) (w : World) (e : Ending) (w' : World) : Prop := e = .returned (.tuple #[.int .u64 r.1, .int .i64 r.2.1, .int .i64 r.2.2]) ∧ Below w.heap.size w w'
theorem ret_v {a b : Nat} {c : Int} {r : Nat × Nat × Int} (h : r = (a, b, c)) : Ending.returned (.tuple #[.int .u64 a, .int .i64 b, .int .i64 c]) = .returned (.tuple #[.int .u64 r.1, .int .i64 r.2.1, .int .i64 r.2.2]) := by rw [h]

set_option maxRecDepth 100000 in
set_option maxHeartbeats 2000000 in
theorem vget_any (s : ByteArray) (p : Nat) (w : World) (hs : s.size ≤ 9223372036854775000) (hp : p ≤ s.size) : Calls Tryz.prog 140 #[.string s, .int .i64 p] w (VIs (vgetL s.data.toList p) w) := by
  have hp0 : (0 : Int) ≤ (p : Int) := by omega
  have hp1 : (p : Int) ≤ (s.size : Int) := by omega
  have hln := data_len s
  by_cases hpe : p = s.size
  · have HF := hid (show vgetL s.data.toList p = (0, 0, 5) by unfold vgetL; rw [if_pos (by omega)])
    have HB0 := hid (Below.refl w.heap.size w)
    have hpi : (p : Int) = (s.size : Int) := by omega
    clear hpe hln
    go_enter Tryz.func140, Tryz.ntmps140
    go_wp2_with fail
    exact bodyPost_ret (v := .tuple #[.int .u64 ((0 : Nat)), .int .i64 ((0 : Nat)), .int .i64 5]) (by simp [results, Tryz.results140, go_sem]) rfl ⟨ret_v HF.out, HB0.out⟩
  · have hlt : p < s.size := by omega
    have hlt2 : (p : Int) < (s.size : Int) := by omega
    have hne : (p : Int) ≠ (s.size : Int) := by omega
    have HBA := hid (byteAt_get hlt)
    obtain ⟨b, hb⟩ : ∃ b, (s[p]'hlt).toNat = b := ⟨_, rfl⟩
    have hb8 : b < 256 := by rw [← hb]; exact UInt8.toNat_lt _
    have HB := hid (show byteAt s.data.toList p = b from HBA.out.trans hb)
    have HK := hid (kOf_ok (b := b))
    have hk8 := kOf_le b
    obtain ⟨k, hk⟩ : ∃ k, k = kOf b := ⟨_, rfl⟩
    have HSZ := hid (fun y => vsize_any b y)
    rw [← hk] at HSZ HK hk8
    have HKB := hid hk.symm
    have HV := hid (show vgetL s.data.toList p = if s.size < p + 1 + k then (0, 0, 5) else if (vintL (if k = 0 then b else getN s (p + 1) k)).length = 1 + k then (if k = 0 then b else getN s (p + 1) k, p + 1 + k, 0) else (0, 0, 4) by
      unfold vgetL vnum
      rw [if_neg (by omega), HB.out, HKB.out, hln]
      rfl)
    clear hk hln hpe HBA
    by_cases hk0 : k = 0
    · subst hk0
      have HV := hid (HV.out.trans (if_neg (by omega)))
      rw [if_pos rfl] at HV
      have HP := hid (fun y => vput_any b (by omega) y)
      have hvl := bL_size (vintL b)
      have hv9 := vintL_le b
      generalize hvs : bL (vintL b) = vs at *
      by_cases hz : (vintL b).length = 1 + 0
      · have HF := hid (HV.out.trans (if_pos hz))
        have hzz : (vs.size : Int) = 1 := by omega
        have HP := hid (show ∀ y : World, Calls Tryz.prog 69 #[.int .u64 b] y fun e w' => e = .returned (.string vs) ∧ Below y.heap.size y w' from fun y => hvs ▸ HP.out y)
        clear hz hvl hv9 hvs
        go_enter Tryz.func140, Tryz.ntmps140
        go_wp2_with fail
        refine (HSZ.out w).mono ?_
        rintro e w' ⟨rfl, rfl⟩
        go_wp2_with fail
        refine (HP.out w).mono ?_
        rintro e w' ⟨rfl, hb⟩
        have HB0 := hid hb
        clear hb
        go_wp2_with fail
        exact bodyPost_ret (v := .tuple #[.int .u64 (b), .int .i64 (((p + 1 : Nat) : Int)), .int .i64 0]) (by simp [results, Tryz.results140, go_sem]) rfl ⟨ret_v HF.out, HB0.out⟩
      · have HF := hid (HV.out.trans (if_neg hz))
        have hzz : ¬ (vs.size : Int) = 1 := by omega
        have HP := hid (show ∀ y : World, Calls Tryz.prog 69 #[.int .u64 b] y fun e w' => e = .returned (.string vs) ∧ Below y.heap.size y w' from fun y => hvs ▸ HP.out y)
        clear hz hvl hv9 hvs
        go_enter Tryz.func140, Tryz.ntmps140
        go_wp2_with fail
        refine (HSZ.out w).mono ?_
        rintro e w' ⟨rfl, rfl⟩
        go_wp2_with fail
        refine (HP.out w).mono ?_
        rintro e w' ⟨rfl, hb⟩
        have HB0 := hid hb
        clear hb
        go_wp2_with fail
        exact bodyPost_ret (v := .tuple #[.int .u64 ((0 : Nat)), .int .i64 ((0 : Nat)), .int .i64 4]) (by simp [results, Tryz.results140, go_sem]) rfl ⟨ret_v HF.out, HB0.out⟩
    · have hk1 : (0 : Int) < (k : Int) := by omega
      have hok := HK.out hk0
      simp only [if_neg hk0] at HV
      by_cases hin : s.size < p + 1 + k
      · have HF := hid (HV.out.trans (if_pos hin))
        have HG := hid (fun y => get_no s ((p : Int) + 1) k hok (by omega) (.inr (by omega)) y)
        clear HV HK hok hin
        go_enter Tryz.func140, Tryz.ntmps140
        go_wp2_with fail
        refine (HSZ.out w).mono ?_
        rintro e w' ⟨rfl, rfl⟩
        go_wp2_with fail
        refine (HG.out w).mono ?_
        rintro e w' ⟨rfl, hb⟩
        have HB0 := hid hb
        clear hb
        go_wp2_with fail
        exact bodyPost_ret (v := .tuple #[.int .u64 ((0 : Nat)), .int .i64 ((0 : Nat)), .int .i64 5]) (by simp [results, Tryz.results140, go_sem]) rfl ⟨ret_v HF.out, HB0.out⟩
      · have HV := hid (HV.out.trans (if_neg hin))
        have hgl := getN_lt (s := s) (p := p + 1) hk8
        have HG := hid (show ∀ y : World, Calls Tryz.prog 84 #[.string s, .int .i64 ((p : Int) + 1), .int .i64 k] y fun e w'' => e = .returned (.tuple #[.int .u64 (getN s (p + 1) k), .bool true]) ∧ Below y.heap.size y w'' from fun y => get_yes s (p + 1) k hok (by omega) (by omega) y)
        have hin2 : (p : Int) + 1 + k ≤ (s.size : Int) := by omega
        clear hin hok HK
        generalize getN s (p + 1) k = n at *
        have HP := hid (fun y => vput_any n hgl y)
        have hvl := bL_size (vintL n)
        have hv9 := vintL_le n
        generalize hvs : bL (vintL n) = vs at *
        have HP := hid (show ∀ y : World, Calls Tryz.prog 69 #[.int .u64 n] y fun e w' => e = .returned (.string vs) ∧ Below y.heap.size y w' from fun y => hvs ▸ HP.out y)
        by_cases hz : (vintL n).length = 1 + k
        · have HF := hid (HV.out.trans (if_pos hz))
          have hzz : (vs.size : Int) = 1 + k := by omega
          have hcmp : ((1 + (k : Int)) != (p : Int) + 1 + k - p) = false := by rw [bne_eq_false_iff_eq]; omega
          clear hz hvl hv9 hvs
          go_enter Tryz.func140, Tryz.ntmps140
          go_wp2_with fail
          refine (HSZ.out w).mono ?_
          rintro e w' ⟨rfl, rfl⟩
          go_wp2_with fail
          refine (HG.out w).mono ?_
          rintro e w1 ⟨rfl, hb⟩
          have HB1 := hid hb
          clear hb
          go_wp2_with fail
          refine (HP.out w1).mono ?_
          rintro e w' ⟨rfl, hb⟩
          have HB0 := hid (HB1.out.trans (hb.mono HB1.out.size))
          clear hb
          go_wp2_with fail
          exact bodyPost_ret (v := .tuple #[.int .u64 (n), .int .i64 (((p + 1 + k : Nat) : Int)), .int .i64 0]) (by simp [results, Tryz.results140, go_sem]) rfl ⟨ret_v HF.out, HB0.out⟩
        · have HF := hid (HV.out.trans (if_neg hz))
          have hcmp : ((vs.size : Int) != (p : Int) + 1 + k - p) = true := by rw [bne_iff_ne]; omega
          clear hz hvl hv9 hvs
          go_enter Tryz.func140, Tryz.ntmps140
          go_wp2_with fail
          refine (HSZ.out w).mono ?_
          rintro e w' ⟨rfl, rfl⟩
          go_wp2_with fail
          refine (HG.out w).mono ?_
          rintro e w1 ⟨rfl, hb⟩
          have HB1 := hid hb
          clear hb
          go_wp2_with fail
          refine (HP.out w1).mono ?_
          rintro e w' ⟨rfl, hb⟩
          have HB0 := hid (HB1.out.trans (hb.mono HB1.out.size))
          clear hb
          go_wp2_with fail
          exact bodyPost_ret (v := .tuple #[.int .u64 ((0 : Nat)), .int .i64 ((0 : Nat)), .int .i64 4]) (by simp [results, Tryz.results140, go_sem]) rfl ⟨ret_v HF.out, HB0.out⟩
end Go.Proofs.YtaooibocknemkaaGreat
end
