/-
  TxCopies: the walk. Conditions: none.
-/
import Derived.Test.YtjbpaknjiplakaaTxI
namespace Go.Proofs.Ytjbpaknjiplakaa
open Go.RowKit Go.BigFrame
set_option linter.unusedVariables false
set_option linter.unusedSimpArgs false

set_option maxRecDepth 100000 in
set_option maxHeartbeats 1000000 in
theorem txCopies_walk (v1 : Value) (t : PTx) (v2 : Value) (u : PTx) (same : Bool) (w : World) (h1 : TxAt w v1 t) (h2 : TxAt w v2 u) : Calls Try.prog 8 #[v1, v2, .bool same] w (BIs true w) := by
  have h1' := h1
  have h2' := h2
  obtain ⟨va, vo, rfl, hia, hob, -, -⟩ := h1
  obtain ⟨vc, vq, rfl, hic, hoq, -, -⟩ := h2
  obtain ⟨a, c, rfl, -, -⟩ := hia.shape
  obtain ⟨a', c', rfl, -, -⟩ := hob.shape
  obtain ⟨e, g, rfl, -, -⟩ := hic.shape
  obtain ⟨e', g', rfl, -, -⟩ := hoq.shape
  obtain ⟨n, hn⟩ : ∃ n, n = t.ins.length := ⟨_, rfl⟩
  obtain ⟨n', hn'⟩ : ∃ n, n = t.outs.length := ⟨_, rfl⟩
  obtain ⟨m, hm⟩ : ∃ n, n = u.ins.length := ⟨_, rfl⟩
  obtain ⟨m', hm'⟩ : ∃ n, n = u.outs.length := ⟨_, rfl⟩
  rw [← hn, ← hn'] at h1' ⊢
  rw [← hm, ← hm'] at h2' ⊢
  obtain ⟨hal, hz1, hz2⟩ := two_boxes w #[.int .u32 t.ver, .slice a n c, .slice a' n' c', .int .u32 t.lock] #[.int .u32 u.ver, .slice e m g, .slice e' m' g', .int .u32 u.lock] 26
  have HT0 := Lib.hid h1'
  have HT1 := Lib.hid (h1'.below hal)
  have HT2 := Lib.hid (h2'.below hal)
  obtain ⟨ta, hta⟩ : ∃ x, x = cutTx 12 t := ⟨_, rfl⟩
  obtain ⟨tu, htu⟩ : ∃ x, x = cutTx 12 u := ⟨_, rfl⟩
  have HTA := Lib.hid hta
  have HTU := Lib.hid htu
  clear hia hob hic hoq hn hn' hm hm' h1' h2' hta htu
  go_enter Try.func8, Try.ntmps8
  go_upto_region 1 with fail
  generalize (w.alloc (.cells #[.int .u32 t.ver, .slice a n c, .slice a' n' c', .int .u32 t.lock] 26)).alloc (.cells #[.int .u32 u.ver, .slice e m g, .slice e' m' g', .int .u32 u.lock] 26) = w0 at *
  have p0 : w0.cell? ⟨w.heap.size, 0, none⟩ = some (.int .u32 t.ver) := cell_at hz1
  have p1 : w0.cell? ⟨w.heap.size, 1, none⟩ = some (.slice a n c) := cell_at hz1
  have p2 : w0.cell? ⟨w.heap.size, 2, none⟩ = some (.slice a' n' c') := cell_at hz1
  have p3 : w0.cell? ⟨w.heap.size, 3, none⟩ = some (.int .u32 t.lock) := cell_at hz1
  have q0 : w0.cell? ⟨w.heap.size + 1, 0, none⟩ = some (.int .u32 u.ver) := cell_at hz2
  have q1 : w0.cell? ⟨w.heap.size + 1, 1, none⟩ = some (.slice e m g) := cell_at hz2
  have q2 : w0.cell? ⟨w.heap.size + 1, 2, none⟩ = some (.slice e' m' g') := cell_at hz2
  have q3 : w0.cell? ⟨w.heap.size + 1, 3, none⟩ = some (.int .u32 u.lock) := cell_at hz2
  have HAL := Lib.hid hal
  have HZ1 := Lib.hid hz1
  have HZ2 := Lib.hid hz2
  clear hz1 hz2 hal
  refine wp_region_made (RA (.agg #[.int .u32 t.ver, .slice a n c, .slice a' n' c', .int .u32 t.lock]) (.agg #[.int .u32 u.ver, .slice e m g, .slice e' m' g', .int .u32 u.lock]) ta tu) 6 (by kernel_rfl) (by kernel_rfl) (by kernel_rfl) (by kernel_rfl) (by decide) (by kernel_rfl) ?_ ?_
  · intro i o hi ho L xs lo hi' wr hmd hni hpre
    obtain ⟨x0, x1, x2, x3, x4, x5, rfl⟩ : ∃ x0 x1 x2 x3 x4 x5, xs = [x0, x1, x2, x3, x4, x5] := by match xs, hmd.len with | [x0, x1, x2, x3, x4, x5], _ => exact ⟨_, _, _, _, _, _, rfl⟩
    match i, ho with
    | 0, ho =>
      obtain rfl := Option.some.inj ho
      have z0 := below_cells hmd.bel _ _ p0
      have z1 := below_cells hmd.bel _ _ p1
      have z2 := below_cells hmd.bel _ _ p2
      have z3 := below_cells hmd.bel _ _ p3
      have kk := fun lx ox ax => @step_pure Try.prog (RA (.agg #[.int .u32 t.ver, .slice a n c, .slice a' n' c', .int .u32 t.lock]) (.agg #[.int .u32 u.ver, .slice e m g, .slice e' m' g', .int .u32 u.lock]) ta tu) lx [x0, x1, x2, x3, x4, x5] ox ax wr 0 (.agg #[.int .u32 t.ver, .slice a n c, .slice a' n' c', .int .u32 t.lock])
      refine kk _ _ _ ?_ ?_
      · simp [putAll, execOp, go_sem, z0, z1, z2, z3]
      · exact rfl
    | 1, ho =>
      obtain rfl := Option.some.inj ho
      have h_0 : x0 = .agg #[.int .u32 t.ver, .slice a n c, .slice a' n' c', .int .u32 t.lock] := hmd.rel 0 (hpre 0 (by kernel_rfl))
      subst h_0
      have kk := fun lx ox ax => @step_call Try.prog (RA (.agg #[.int .u32 t.ver, .slice a n c, .slice a' n' c', .int .u32 t.lock]) (.agg #[.int .u32 u.ver, .slice e m g, .slice e' m' g', .int .u32 u.lock]) ta tu) lx [(.agg #[.int .u32 t.ver, .slice a n c, .slice a' n' c', .int .u32 t.lock]), x1, x2, x3, x4, x5] ox ax wr 1 _ _ _ (cut12_any _ t wr (HT1.out.below hmd.bel))
      refine kk _ _ _ ?_ ?_
      · kernel_rfl
      · exact fun en w' ⟨v, he, hown, hb⟩ => ⟨v, he, hb, w', rfl, HTA.out ▸ hown, fun _ _ => rfl⟩
    | 2, ho =>
      obtain rfl := Option.some.inj ho
      have z0 := below_cells hmd.bel _ _ q0
      have z1 := below_cells hmd.bel _ _ q1
      have z2 := below_cells hmd.bel _ _ q2
      have z3 := below_cells hmd.bel _ _ q3
      have kk := fun lx ox ax => @step_pure Try.prog (RA (.agg #[.int .u32 t.ver, .slice a n c, .slice a' n' c', .int .u32 t.lock]) (.agg #[.int .u32 u.ver, .slice e m g, .slice e' m' g', .int .u32 u.lock]) ta tu) lx [x0, x1, x2, x3, x4, x5] ox ax wr 2 (.agg #[.int .u32 u.ver, .slice e m g, .slice e' m' g', .int .u32 u.lock])
      refine kk _ _ _ ?_ ?_
      · simp [putAll, execOp, go_sem, z0, z1, z2, z3]
      · exact rfl
    | 3, ho =>
      obtain rfl := Option.some.inj ho
      have h_2 : x2 = .agg #[.int .u32 u.ver, .slice e m g, .slice e' m' g', .int .u32 u.lock] := hmd.rel 2 (hpre 2 (by kernel_rfl))
      subst h_2
      have kk := fun lx ox ax => @step_call Try.prog (RA (.agg #[.int .u32 t.ver, .slice a n c, .slice a' n' c', .int .u32 t.lock]) (.agg #[.int .u32 u.ver, .slice e m g, .slice e' m' g', .int .u32 u.lock]) ta tu) lx [x0, x1, (.agg #[.int .u32 u.ver, .slice e m g, .slice e' m' g', .int .u32 u.lock]), x3, x4, x5] ox ax wr 3 _ _ _ (cut12_any _ u wr (HT2.out.below hmd.bel))
      refine kk _ _ _ ?_ ?_
      · kernel_rfl
      · exact fun en w' ⟨v, he, hown, hb⟩ => ⟨v, he, hb, w', rfl, HTU.out ▸ hown, fun _ _ => rfl⟩
    | 4, ho =>
      obtain rfl := Option.some.inj ho
      have kk := fun lx ox ax => @step_new Try.prog (RA (.agg #[.int .u32 t.ver, .slice a n c, .slice a' n' c', .int .u32 t.lock]) (.agg #[.int .u32 u.ver, .slice e m g, .slice e' m' g', .int .u32 u.lock]) ta tu) lx [x0, x1, x2, x3, x4, x5] ox ax wr 4 (.pointer (some ⟨wr.heap.size, 0, none⟩)) (.cells #[.int .u32 0, .slice none 0 0, .slice none 0 0, .int .u32 0] 26)
      refine kk _ _ _ ?_ ?_
      · kernel_rfl
      · exact ⟨_, Nat.le_refl _, by simp, rfl, heap_alloc_new wr _⟩
    | 5, ho =>
      obtain rfl := Option.some.inj ho
      have kk := fun lx ox ax => @step_new Try.prog (RA (.agg #[.int .u32 t.ver, .slice a n c, .slice a' n' c', .int .u32 t.lock]) (.agg #[.int .u32 u.ver, .slice e m g, .slice e' m' g', .int .u32 u.lock]) ta tu) lx [x0, x1, x2, x3, x4, x5] ox ax wr 5 (.pointer (some ⟨wr.heap.size, 0, none⟩)) (.cells #[.int .u32 0, .slice none 0 0, .slice none 0 0, .int .u32 0] 26)
      refine kk _ _ _ ?_ ?_
      · kernel_rfl
      · exact ⟨_, Nat.le_refl _, by simp, rfl, heap_alloc_new wr _⟩
    | q + 6, ho => omega
  · intro xs lo hi wr hmd
    obtain ⟨x0, x1, x2, x3, x4, x5, rfl⟩ : ∃ x0 x1 x2 x3 x4 x5, xs = [x0, x1, x2, x3, x4, x5] := by match xs, hmd.len with | [x0, x1, x2, x3, x4, x5], _ => exact ⟨_, _, _, _, _, _, rfl⟩
    simp only [putAll]
    change wpList _ _ _ (_ :: _ :: []) _ _
    obtain ⟨A7, h7lo, h7hi, e4, hz7⟩ : ∃ b, lo 4 ≤ b ∧ b < hi 4 ∧ x4 = .pointer (some ⟨b, 0, none⟩) ∧ wr.heap[b]? = some (.cells #[.int .u32 0, .slice none 0 0, .slice none 0 0, .int .u32 0] 26 (0, 0)) := hmd.rel 4 (by decide)
    obtain ⟨A8, h8lo, h8hi, e5, hz8⟩ : ∃ b, lo 5 ≤ b ∧ b < hi 5 ∧ x5 = .pointer (some ⟨b, 0, none⟩) ∧ wr.heap[b]? = some (.cells #[.int .u32 0, .slice none 0 0, .slice none 0 0, .int .u32 0] 26 (0, 0)) := hmd.rel 5 (by decide)
    subst e4
    subst e5
    obtain ⟨vi, vo, ps, e1, his, hin, hou, hap, hlt, hnu⟩ := tx_made (show (Fact.tx ta).p x1 _ (lo 1) (hi 1) wr from hmd.rel 1 (by decide))
    obtain ⟨vc, vd, qs, e3, hjs, hjn, hju, hjp, hjt, hjm⟩ := tx_made (show (Fact.tx tu).p x3 _ (lo 3) (hi 3) wr from hmd.rel 3 (by decide))
    have a14 := hmd.apart 1 4 (by decide) (by decide) (by decide)
    have a15 := hmd.apart 1 5 (by decide) (by decide) (by decide)
    have a34 := hmd.apart 3 4 (by decide) (by decide) (by decide)
    have a35 := hmd.apart 3 5 (by decide) (by decide) (by decide)
    have a45 := hmd.apart 4 5 (by decide) (by decide) (by decide)
    have l1 := hmd.lohi 1 (by decide)
    have l4 := hmd.lohi 4 (by decide)
    have l5 := hmd.lohi 5 (by decide)
    have hX := (Array.getElem?_eq_some_iff.1 HZ2.out).1
    obtain ⟨ai, ci, e6, -, -⟩ := ownsRow_shape hin.row
    obtain ⟨ao, co, e7, -, -⟩ := ownsRow_shape hou.row
    obtain ⟨ai2, ci2, e8, -, -⟩ := ownsRow_shape hjn.row
    obtain ⟨ao2, co2, e9, -, -⟩ := ownsRow_shape hju.row
    obtain ⟨n1, hn1⟩ : ∃ n, n = ps.length := ⟨_, rfl⟩
    obtain ⟨n2, hn2⟩ : ∃ n, n = ta.outs.length := ⟨_, rfl⟩
    obtain ⟨n3, hn3⟩ : ∃ n, n = qs.length := ⟨_, rfl⟩
    obtain ⟨n4, hn4⟩ : ∃ n, n = tu.outs.length := ⟨_, rfl⟩
    rw [← hn1] at e6
    rw [← hn2] at e7
    rw [← hn3] at e8
    rw [← hn4] at e9
    subst e6
    subst e7
    subst e8
    subst e9
    subst e1
    subst e3
    obtain ⟨wy, hwy⟩ : ∃ wy, wy = wr.setRow A7 #[.int .u32 ta.ver, .slice ai n1 ci, .slice ao n2 co, .int .u32 ta.lock] := ⟨_, rfl⟩
    have k1 : wy.heap[A7]? = _ := hwy ▸ setRow_heap wr A7 _ #[.int .u32 ta.ver, .slice ai n1 ci, .slice ao n2 co, .int .u32 ta.lock] _ _ hz7
    have k2 : ∀ b, b ≠ A7 → wy.heap[b]? = wr.heap[b]? := fun b hb => hwy ▸ setRow_other wr A7 b _ hb
    have hz8' : wy.heap[A8]? = _ := (k2 A8 (by omega)).trans hz8
    obtain ⟨wz, hwz⟩ : ∃ wz, wz = wy.setRow A8 #[.int .u32 tu.ver, .slice ai2 n3 ci2, .slice ao2 n4 co2, .int .u32 tu.lock] := ⟨_, rfl⟩
    have k4 : wz.heap[A8]? = _ := hwz ▸ setRow_heap wy A8 _ #[.int .u32 tu.ver, .slice ai2 n3 ci2, .slice ao2 n4 co2, .int .u32 tu.lock] _ _ hz8'
    have k5 : ∀ b, b ≠ A8 → wz.heap[b]? = wy.heap[b]? := fun b hb => hwz ▸ setRow_other wy A8 b _ hb
    have hsz : wz.heap.size = wr.heap.size := by rw [hwz, setRow_size, hwy, setRow_size]
    have hkeep : ∀ b, b ≠ A7 → b ≠ A8 → wz.heap[b]? = wr.heap[b]? := fun b h1 h2 => (k5 b h2).trans (k2 b h1)
    have hbz : Below w.heap.size w wz := hwz ▸ below_row (hwy ▸ below_row (HAL.out.trans (hmd.bel.mono HAL.out.size)) (by omega) _) (by omega) _
    have hms : MS w A7 (lo 1) (hi 1) #[.int .u32 t.ver, .slice a n c, .slice a' n' c', .int .u32 t.lock] t ta (.slice ai n1 ci) (.slice ao n2 co) ps wz := by
      refine ⟨hbz, ?_, HT0.out, ?_, hin.kept fun b hb => hkeep b (fun e => ?_) (fun e => ?_), hou.kept fun b hb => hkeep b (fun e => ?_) (fun e => ?_), hap, fun b hb => (hlt b hb).2, by omega, ?_, by omega, his, hnu⟩
      · rw [hkeep _ (by omega) (by omega), hmd.bel.block _ (by omega)]
        exact HZ1.out
      · rw [k5 _ (by omega)]
        exact k1
      · have := hlt b (.inr hb); omega
      · have := hlt b (.inr hb); omega
      · have := hlt b (.inl hb); omega
      · have := hlt b (.inl hb); omega
      · omega
    have hmb : MB A8 tu (.slice ai2 n3 ci2) (.slice ao2 n4 co2) wz := by
      refine ⟨k4, _, _, rfl, ?_, ?_, hjm.1, hjm.2⟩
      · have h1 := (hjn.kept (w' := wz) fun b hb => hkeep b (fun e => by have := hjt b (.inr hb); omega) (fun e => by have := hjt b (.inr hb); omega)).sl
        rw [← hjs] at h1
        exact h1
      · exact (hju.kept (w' := wz) fun b hb => hkeep b (fun e => by have := hjt b (.inl hb); omega) (fun e => by have := hjt b (.inl hb); omega)).sl
    have hA8 : A8 < wz.heap.size := (Array.getElem?_eq_some_iff.1 k4).1
    obtain ⟨L1, hL1⟩ : ∃ x, x = lo 1 := ⟨_, rfl⟩
    obtain ⟨H1, hH1⟩ : ∃ x, x = hi 1 := ⟨_, rfl⟩
    rw [← hL1, ← hH1] at hms
    have hne8 : A8 ≠ A7 ∧ ¬ (L1 ≤ A8 ∧ A8 < H1) ∧ w.heap.size < A8 := by omega
    have HNE := Lib.hid hne8
    have HMS := Lib.hid hms
    have HMB := Lib.hid hmb
    have HTT := Lib.hid (And.intro hn1 hn2)
    have HT8 := Lib.hid hz8'
    have HT7 := Lib.hid hz7
    clear hms hmb hA8 hkeep hbz k1 k2 k4 k5 hz7 hz8 hz8' hn3 hn4 hn1 hn2 hX l1 l4 l5 a14 a15 a34 a35 a45 h7lo h7hi h8lo h8hi hin hou hap hlt hjn hju hjp hjt hjs his hnu hjm hmd p0 p1 p2 p3 q0 q1 q2 q3 HZ1 HZ2 HT2 HAL HT1 HT0 hL1 hH1 hne8 hsz
    refine wpList_store_row ?_ 26 (.tmp 7) (.tmp 15) ?_ A7 #[.int .u32 ta.ver, .slice ai n1 ci, .slice ao n2 co, .int .u32 ta.lock] ?_ ?_ 26 _ HT7.out ?_ ?_ ?_ ?_
    · rfl
    · rfl
    · kernel_rfl
    · kernel_rfl
    · kernel_rfl
    · rfl
    · kernel_rfl
    rw [← hwy]
    refine wpList_store_row ?_ 26 (.tmp 8) (.tmp 17) ?_ A8 #[.int .u32 tu.ver, .slice ai2 n3 ci2, .slice ao2 n4 co2, .int .u32 tu.lock] ?_ ?_ 26 _ HT8.out ?_ ?_ ?_ ?_
    · rfl
    · rfl
    · kernel_rfl
    · kernel_rfl
    · kernel_rfl
    · rfl
    · kernel_rfl
    rw [← hwz]
    clear hwy hwz HT7 HT8
    go_upto_if 18 with fail
    go_cut [18] (fun s18 wx => s18 = .bool same ∧ MS w A7 L1 H1 #[.int .u32 t.ver, .slice a n c, .slice a' n' c', .int .u32 t.lock] t ta (.slice ai n1 ci) (.slice ao n2 co) ps wx ∧ ∃ tb vc vd, MB A8 tb vc vd wx)
    case first =>
      cases same
      · go_wp2_with fail
        go_meet
        exact ⟨rfl, HMS.out, tu, _, _, HMB.out⟩
      · skip
        have p0 : wz.cell? ⟨w.heap.size, 0, none⟩ = some (.int .u32 t.ver) := cell_at HMS.out.abox
        have p1 : wz.cell? ⟨w.heap.size, 1, none⟩ = some (.slice a n c) := cell_at HMS.out.abox
        have p2 : wz.cell? ⟨w.heap.size, 2, none⟩ = some (.slice a' n' c') := cell_at HMS.out.abox
        have p3 : wz.cell? ⟨w.heap.size, 3, none⟩ = some (.int .u32 t.lock) := cell_at HMS.out.abox
        go_wp2_with fail
        refine (cut12_any _ t wz HMS.out.at1).mono ?_
        rintro en w3 ⟨v3, rfl, hown, hb⟩
        rw [← HTA.out] at hown
        obtain ⟨⟨vi3, vo3, ps3, rfl, hp3, hi3, ho3, -⟩, -, -⟩ := id hown
        obtain ⟨xa, ya, e3, -, -⟩ := ownsRow_shape hi3.row
        obtain ⟨xo, yo, e4, -, -⟩ := ownsRow_shape ho3.row
        obtain ⟨nx, hnx⟩ : ∃ n, n = ps3.length := ⟨_, rfl⟩
        obtain ⟨ny, hny⟩ : ∃ n, n = ta.outs.length := ⟨_, rfl⟩
        rw [← hnx] at e3
        rw [← hny] at e4
        subst e3
        subst e4
        have HM3 := Lib.hid (HMS.out.next hb)
        have HB3 := Lib.hid (HMB.out.next hb)
        have HO3 := Lib.hid hown
        clear hi3 ho3 hp3 hnx hny hown hb p0 p1 p2 p3
        have y0 : w3.cell? ⟨A8, 0, none⟩ = some (.int .u32 tu.ver) := cell_at HB3.out.1
        have y1 : w3.cell? ⟨A8, 1, none⟩ = some (.slice ai2 n3 ci2) := cell_at HB3.out.1
        have y2 : w3.cell? ⟨A8, 2, none⟩ = some (.slice ao2 n4 co2) := cell_at HB3.out.1
        have y3 : w3.cell? ⟨A8, 3, none⟩ = some (.int .u32 tu.lock) := cell_at HB3.out.1
        have f0 : w3.frozen? ⟨A8, 0, none⟩ = false := free_at HB3.out.1
        have f1 : w3.frozen? ⟨A8, 1, none⟩ = false := free_at HB3.out.1
        have f2 : w3.frozen? ⟨A8, 2, none⟩ = false := free_at HB3.out.1
        have f3 : w3.frozen? ⟨A8, 3, none⟩ = false := free_at HB3.out.1
        obtain ⟨k4, k5, k6⟩ := four_cells HB3.out.1 (.int .u32 ta.ver) (.slice xa nx ya) (.slice xo ny yo) (.int .u32 ta.lock)
        have HK4 := Lib.hid k4
        have HK5 := Lib.hid k5
        have HK6 := Lib.hid (k6 w.heap.size (by have := HNE.out; omega))
        clear k4 k5 k6
        go_wp2_with fail
        go_meet
        refine ⟨rfl, HM3.out.store HNE.out HK6.out HK5.out, ta, _, _, HK4.out, ?_⟩
        have hk : ∀ b, wz.heap.size ≤ b → _ := fun b hb => HK5.out b (by have := (Array.getElem?_eq_some_iff.1 HMB.out.1).1; omega)
        exact (HO3.out.kept2 fun b hb _ => hk b hb).tx
    case rest =>
      obtain ⟨rfl, hms, tb, vc, vd, hmb⟩ := hcut
      rename World => wx
      have HMS := Lib.hid hms
      obtain ⟨x1, x2, hx, hx1, hx2, -, -⟩ := id hmb.2
      obtain ⟨rfl, rfl⟩ : vc = x1 ∧ vd = x2 := by simpa using hx
      obtain ⟨xb, cb, rfl, -, -⟩ := hx1.shape
      obtain ⟨yb, db, rfl, -, -⟩ := hx2.shape
      obtain ⟨nb, hnb⟩ : ∃ n, n = tb.ins.length := ⟨_, rfl⟩
      obtain ⟨mb, hmm⟩ : ∃ n, n = tb.outs.length := ⟨_, rfl⟩
      rw [← hnb, ← hmm] at hmb
      have HMB := Lib.hid hmb
      clear hms hmb hx1 hx2 hx hnb hmm
      have z0 : wx.cell? ⟨A7, 0, none⟩ = some (.int .u32 ta.ver) := cell_at HMS.out.b7
      have z1 : wx.cell? ⟨A7, 1, none⟩ = some (.slice ai n1 ci) := cell_at HMS.out.b7
      have z2 : wx.cell? ⟨A7, 2, none⟩ = some (.slice ao n2 co) := cell_at HMS.out.b7
      have z3 : wx.cell? ⟨A7, 3, none⟩ = some (.int .u32 ta.lock) := cell_at HMS.out.b7
      have hcl := cut_lens t
      have hcw := capB_wit (t := t)
      rw [← HTA.out] at hcl hcw
      have HCW := Lib.hid hcw
      have HCL := Lib.hid hcl
      clear hcl hcw
      go_wp2_with fail
      refine (copy_any _ ta wx HMS.out.tx (by have := HCL.out.1; omega) (by have := HCL.out.2; omega) (fun x hx => by have := (HCW.out x hx).1; omega)).mono ?_
      rintro en w4 ⟨v4, rfl, hown, hb⟩
      obtain ⟨⟨vi9, vo9, ps9, rfl, -, hi9, ho9, -⟩, -, -⟩ := id hown
      obtain ⟨ai9, ci9, e9, -, -⟩ := ownsRow_shape hi9.row
      obtain ⟨ao9, co9, e9', -, -⟩ := ownsRow_shape ho9.row
      obtain ⟨n9, hn9⟩ : ∃ n, n = ps9.length := ⟨_, rfl⟩
      obtain ⟨m9, hm9⟩ : ∃ n, n = ta.outs.length := ⟨_, rfl⟩
      rw [← hn9] at e9
      rw [← hm9] at e9'
      subst e9
      subst e9'
      obtain ⟨B9, hB9⟩ : ∃ b, b = wx.heap.size := ⟨_, rfl⟩
      rw [← hB9] at hown
      have hH9 : H1 ≤ B9 := by rw [hB9]; exact HMS.out.hile
      have hs9 := hb.size
      have HM4 := Lib.hid (HMS.out.next hb)
      have HB4 := Lib.hid (HMB.out.next hb)
      have HO4 := Lib.hid hown
      clear hi9 ho9 hn9 hm9 hown hb z0 z1 z2 z3
      go_upto_region 5 with fail
      have hz := heap_alloc_new w4 (.cells #[.int .u32 ta.ver, .slice ai9 n9 ci9, .slice ao9 m9 co9, .int .u32 ta.lock] 26)
      have hal : Below w4.heap.size w4 (w4.alloc (.cells #[.int .u32 ta.ver, .slice ai9 n9 ci9, .slice ao9 m9 co9, .int .u32 ta.lock] 26)) := (Below.refl _ _).alloc (Nat.le_refl _) _
      obtain ⟨A9, hA9⟩ : ∃ q, q = w4.heap.size := ⟨_, rfl⟩
      rw [← hA9] at hz ⊢
      generalize w4.alloc (.cells #[.int .u32 ta.ver, .slice ai9 n9 ci9, .slice ao9 m9 co9, .int .u32 ta.lock] 26) = w5 at *
      have HM5 := Lib.hid (HM4.out.next hal)
      have HB5 := Lib.hid (HB4.out.next hal)
      have HC5 := Lib.hid (show MC A9 B9 ta (.slice ai9 n9 ci9) (.slice ao9 m9 co9) w5 from ⟨hz, HO4.out.below hal⟩)
      have HA9 := Lib.hid (show H1 ≤ B9 ∧ H1 ≤ A9 by omega)
      clear hz hal hA9 hs9 hB9 hH9 HM4 HB4 HO4 HMS HMB
      have za0 : w5.cell? ⟨A7, 0, none⟩ = some (.int .u32 ta.ver) := cell_at HM5.out.b7
      have za1 : w5.cell? ⟨A7, 1, none⟩ = some (.slice ai n1 ci) := cell_at HM5.out.b7
      have za2 : w5.cell? ⟨A7, 2, none⟩ = some (.slice ao n2 co) := cell_at HM5.out.b7
      have za3 : w5.cell? ⟨A7, 3, none⟩ = some (.int .u32 ta.lock) := cell_at HM5.out.b7
      have zb0 : w5.cell? ⟨A8, 0, none⟩ = some (.int .u32 tb.ver) := cell_at HB5.out.1
      have zb1 : w5.cell? ⟨A8, 1, none⟩ = some (.slice xb nb cb) := cell_at HB5.out.1
      have zb2 : w5.cell? ⟨A8, 2, none⟩ = some (.slice yb mb db) := cell_at HB5.out.1
      have zb3 : w5.cell? ⟨A8, 3, none⟩ = some (.int .u32 tb.lock) := cell_at HB5.out.1
      have zc0 : w5.cell? ⟨A9, 0, none⟩ = some (.int .u32 ta.ver) := cell_at HC5.out.box
      have zc1 : w5.cell? ⟨A9, 1, none⟩ = some (.slice ai9 n9 ci9) := cell_at HC5.out.box
      have zc2 : w5.cell? ⟨A9, 2, none⟩ = some (.slice ao9 m9 co9) := cell_at HC5.out.box
      have zc3 : w5.cell? ⟨A9, 3, none⟩ = some (.int .u32 ta.lock) := cell_at HC5.out.box
      obtain ⟨r, hr⟩ : ∃ r, r = sameTx ta tb := ⟨_, rfl⟩
      have hr2 : sameTx tb ta = r := by rw [sameTx_symm, hr]
      obtain ⟨C, hC⟩ : ∃ C : World → Prop, C = fun w' => Below w5.heap.size w5 w' := ⟨_, rfl⟩
      have kza0 := kin_cell hC za0
      have kza1 := kin_cell hC za1
      have kza2 := kin_cell hC za2
      have kza3 := kin_cell hC za3
      have kzb0 := kin_cell hC zb0
      have kzb1 := kin_cell hC zb1
      have kzb2 := kin_cell hC zb2
      have kzb3 := kin_cell hC zb3
      have kzc0 := kin_cell hC zc0
      have kzc1 := kin_cell hC zc1
      have kzc2 := kin_cell hC zc2
      have kzc3 := kin_cell hC zc3
      have QW := Lib.hid (kin_call hC fun y h => wakes_any y)
      have QAC := Lib.hid (kin_call hC fun y h => same_yes (t := ta) rfl ▸ equal_any _ _ ta ta y (HM5.out.tx.below h) (HC5.out.own.tx.below h))
      have QSC := Lib.hid (kin_call hC fun y h => same_yes (t := ta) rfl ▸ same_any _ _ ta ta y (HM5.out.tx.below h) (HC5.out.own.tx.below h))
      have QAB := Lib.hid (kin_call hC fun y h => hr ▸ equal_any _ _ ta tb y (HM5.out.tx.below h) (HB5.out.2.below h))
      have QSB := Lib.hid (kin_call hC fun y h => hr ▸ same_any _ _ ta tb y (HM5.out.tx.below h) (HB5.out.2.below h))
      have QBA := Lib.hid (kin_call hC fun y h => hr2 ▸ equal_any _ _ tb ta y (HB5.out.2.below h) (HM5.out.tx.below h))
      clear hr hr2
      have HC := Lib.hid hC
      clear hC
      refine wp_region_kin C (by kernel_rfl) (by kernel_rfl) (by rw [HC.out]; exact ⟨rfl, rfl, rfl, Nat.le_refl _, fun _ _ => rfl⟩) ?_
      intro hne
      repeat (first | (go_big_quiet_step (first | (rename_i y; go_at_call 17; exact Calls.kin (QW.out y) (fun w' h => h)) | (rename_i y; go_at_call_of 25 (#[.agg #[.int .u32 ta.ver, .slice ai n1 ci, .slice ao n2 co, .int .u32 ta.lock], .agg #[.int .u32 ta.ver, .slice ai9 n9 ci9, .slice ao9 m9 co9, .int .u32 ta.lock]] : Array Value); exact Calls.kin (QAC.out y) (fun w' h => h)) | (rename_i y; go_at_call_of 20 (#[.agg #[.int .u32 ta.ver, .slice ai n1 ci, .slice ao n2 co, .int .u32 ta.lock], .agg #[.int .u32 ta.ver, .slice ai9 n9 ci9, .slice ao9 m9 co9, .int .u32 ta.lock]] : Array Value); exact Calls.kin (QSC.out y) (fun w' h => h)) | (rename_i y; go_at_call_of 25 (#[.agg #[.int .u32 ta.ver, .slice ai n1 ci, .slice ao n2 co, .int .u32 ta.lock], .agg #[.int .u32 tb.ver, .slice xb nb cb, .slice yb mb db, .int .u32 tb.lock]] : Array Value); exact Calls.kin (QAB.out y) (fun w' h => h)) | (rename_i y; go_at_call_of 20 (#[.agg #[.int .u32 ta.ver, .slice ai n1 ci, .slice ao n2 co, .int .u32 ta.lock], .agg #[.int .u32 tb.ver, .slice xb nb cb, .slice yb mb db, .int .u32 tb.lock]] : Array Value); exact Calls.kin (QSB.out y) (fun w' h => h)) | (rename_i y; go_at_call_of 25 (#[.agg #[.int .u32 tb.ver, .slice xb nb cb, .slice yb mb db, .int .u32 tb.lock], .agg #[.int .u32 ta.ver, .slice ai n1 ci, .slice ao n2 co, .int .u32 ta.lock]] : Array Value); exact Calls.kin (QBA.out y) (fun w' h => h)))) | (quiet_step (first | (rename_i y; go_at_call 17; exact Calls.kin (QW.out y) (fun w' h => h)) | (rename_i y; go_at_call_of 25 (#[.agg #[.int .u32 ta.ver, .slice ai n1 ci, .slice ao n2 co, .int .u32 ta.lock], .agg #[.int .u32 ta.ver, .slice ai9 n9 ci9, .slice ao9 m9 co9, .int .u32 ta.lock]] : Array Value); exact Calls.kin (QAC.out y) (fun w' h => h)) | (rename_i y; go_at_call_of 20 (#[.agg #[.int .u32 ta.ver, .slice ai n1 ci, .slice ao n2 co, .int .u32 ta.lock], .agg #[.int .u32 ta.ver, .slice ai9 n9 ci9, .slice ao9 m9 co9, .int .u32 ta.lock]] : Array Value); exact Calls.kin (QSC.out y) (fun w' h => h)) | (rename_i y; go_at_call_of 25 (#[.agg #[.int .u32 ta.ver, .slice ai n1 ci, .slice ao n2 co, .int .u32 ta.lock], .agg #[.int .u32 tb.ver, .slice xb nb cb, .slice yb mb db, .int .u32 tb.lock]] : Array Value); exact Calls.kin (QAB.out y) (fun w' h => h)) | (rename_i y; go_at_call_of 20 (#[.agg #[.int .u32 ta.ver, .slice ai n1 ci, .slice ao n2 co, .int .u32 ta.lock], .agg #[.int .u32 tb.ver, .slice xb nb cb, .slice yb mb db, .int .u32 tb.lock]] : Array Value); exact Calls.kin (QSB.out y) (fun w' h => h)) | (rename_i y; go_at_call_of 25 (#[.agg #[.int .u32 tb.ver, .slice xb nb cb, .slice yb mb db, .int .u32 tb.lock], .agg #[.int .u32 ta.ver, .slice ai n1 ci, .slice ao n2 co, .int .u32 ta.lock]] : Array Value); exact Calls.kin (QBA.out y) (fun w' h => h)))))
      refine wpQuiet_nil ?_
      intro _ hw'
      obtain ⟨kx, hw''⟩ := hw'
      subst hw''
      obtain ⟨w6, hxc⟩ := kx
      rw [HC.out] at hxc
      clear HC hne kza0 kza1 kza2 kza3 kzb0 kzb1 kzb2 kzb3 kzc0 kzc1 kzc2 kzc3
      have HM6 := Lib.hid (HM5.out.next hxc)
      have HC6 := Lib.hid (HC5.out.next hxc)
      clear hxc HM5 HB5 HC5 QW QAC QSC QAB QSB QBA za0 za1 za2 za3 zb0 zb1 zb2 zb3 zc0 zc1 zc2 zc3
      have p0 : w6.cell? ⟨w.heap.size, 0, none⟩ = some (.int .u32 t.ver) := cell_at HM6.out.abox
      have p1 : w6.cell? ⟨w.heap.size, 1, none⟩ = some (.slice a n c) := cell_at HM6.out.abox
      have p2 : w6.cell? ⟨w.heap.size, 2, none⟩ = some (.slice a' n' c') := cell_at HM6.out.abox
      have p3 : w6.cell? ⟨w.heap.size, 3, none⟩ = some (.int .u32 t.lock) := cell_at HM6.out.abox
      go_wp2_with fail
      refine (cut12_any _ t w6 HM6.out.at1).mono ?_
      rintro en w7 ⟨v10, rfl, hown, hb⟩
      rw [← HTA.out] at hown
      obtain ⟨⟨vi10, vo10, ps10, rfl, -, hi10, ho10, -⟩, -, -⟩ := id hown
      obtain ⟨ai10, ci10, e10, -, -⟩ := ownsRow_shape hi10.row
      obtain ⟨ao10, co10, e10', -, -⟩ := ownsRow_shape ho10.row
      obtain ⟨n10, hn10⟩ : ∃ n, n = ps10.length := ⟨_, rfl⟩
      obtain ⟨m10, hm10⟩ : ∃ n, n = ta.outs.length := ⟨_, rfl⟩
      rw [← hn10] at e10
      rw [← hm10] at e10'
      subst e10
      subst e10'
      obtain ⟨B10, hB10⟩ : ∃ b, b = w6.heap.size := ⟨_, rfl⟩
      rw [← hB10] at hown
      have hH10 : H1 ≤ B10 := by rw [hB10]; exact HM6.out.hile
      have hs10 := hb.size
      have HM7 := Lib.hid (HM6.out.next hb)
      have HC7 := Lib.hid (HC6.out.next hb)
      have HO7 := Lib.hid hown
      clear hi10 ho10 hn10 hm10 hown hb p0 p1 p2 p3 HM6 HC6
      go_upto_region 8 with fail
      have hz := heap_alloc_new w7 (.cells #[.int .u32 ta.ver, .slice ai10 n10 ci10, .slice ao10 m10 co10, .int .u32 ta.lock] 26)
      have hal : Below w7.heap.size w7 (w7.alloc (.cells #[.int .u32 ta.ver, .slice ai10 n10 ci10, .slice ao10 m10 co10, .int .u32 ta.lock] 26)) := (Below.refl _ _).alloc (Nat.le_refl _) _
      obtain ⟨A10, hA10⟩ : ∃ q, q = w7.heap.size := ⟨_, rfl⟩
      rw [← hA10] at hz ⊢
      generalize w7.alloc (.cells #[.int .u32 ta.ver, .slice ai10 n10 ci10, .slice ao10 m10 co10, .int .u32 ta.lock] 26) = wS at *
      have HM8 := Lib.hid (HM7.out.next hal)
      have HC8 := Lib.hid (HC7.out.next hal)
      have HD8 := Lib.hid (show MC A10 B10 ta (.slice ai10 n10 ci10) (.slice ao10 m10 co10) wS from ⟨hz, HO7.out.below hal⟩)
      have HA10 := Lib.hid (show H1 ≤ B10 ∧ H1 ≤ A10 by omega)
      clear hz hal hA10 hs10 hB10 hH10 HM7 HC7 HO7
      have z1 : wS.cell? ⟨A7, 1, none⟩ = some (.slice ai n1 ci) := cell_at HM8.out.b7
      have HCV := Lib.hid HM8.out.cv
      have HZ1 := Lib.hid z1
      have HZ2 := Lib.hid (show wS.cell? ⟨A7, 2, none⟩ = some (.slice ao n2 co) from cell_at HM8.out.b7)
      have HSM := Lib.hid (show ∀ (j : Nat) (p : PIn × Value), ps[j]? = some p → SmallIn p from fun j p hp => HCW.out p.1 (by rw [HM8.out.is]; exact List.mem_map.2 ⟨p, List.mem_of_getElem? hp, rfl⟩))
      have HL12 := Lib.hid (show n1 ≤ 12 ∧ n2 ≤ 12 by
        have h1 := HCL.out
        have h2 : ps.length = ta.ins.length := by rw [HM8.out.is, List.length_map]
        have h3 := HTT.out
        omega)
      have HN7 := Lib.hid HM8.out.ne7
      go_wp2_with fail
      go_loopg [60] n1 (fun g i wr => ∃ (k : Nat) (qs : List (PIn × Value)), g = n1 - k ∧ k ≤ n1 ∧ i = .int .i64 k ∧ CV w wS L1 H1 (.slice ai n1 ci) (.slice ao n2 co) qs ta.outs wr ∧ qs.length = n1 ∧ ∀ (j : Nat) (p : PIn × Value), k ≤ j → qs[j]? = some p → SmallIn p)
      case atStart => exact ⟨0, ps, rfl, by omega, rfl, HCV.out, HTT.out.1.symm, fun j p _ hp => HSM.out j p hp⟩
      case round =>
        clear HCV z1 HSM
        rename World => wq
        obtain ⟨k, qs1, hgk, hk, rfl, hcv, hql, hsm⟩ := hrel
        have HGK := Lib.hid hgk
        have HCV := Lib.hid hcv
        have HQL := Lib.hid hql
        have HSM := Lib.hid hsm
        clear hgk hcv hql hsm
        by_cases hlt : k < n1
        · obtain ⟨⟨x, wv⟩, hp⟩ : ∃ p, qs1[k]? = some p := ⟨_, List.getElem?_eq_getElem (by rw [HQL.out]; exact hlt)⟩
          obtain ⟨vb, rfl, -, -, -, -, d2, d3⟩ := HCV.out.ins.at hp
          have z1 : wq.cell? ⟨A7, 1, none⟩ = some (.slice (some ⟨vb, 0, none⟩) n1 ci) := HCV.out.cell HN7.out HZ1.out
          have fr : wq.frozen? ⟨vb, k * 4 + 2, none⟩ = false := ownsRow_free HCV.out.ins.row (k * 4 + 2)
          have hk12 : k < 12 := by have := HL12.out; omega
          have hlo : (0 : Int) ≤ (k : Int) := by omega
          have hhi : (k : Int) < n1 := by omega
          have hhi12 : (k : Int) < 12 := by omega
          have HP := Lib.hid hp
          clear hp
          dsimp only at d2 d3
          go_upto_region 12 with fail
          obtain ⟨s', hs', hsl⟩ : ∃ s' : Nat, ((x.seq : Int) + 1) % 4294967296 = (s' : Int) ∧ s' < 4294967296 := ⟨(x.seq + 1) % 4294967296, by omega, by omega⟩
          rw [hs']
          have hcv := HCV.out.seq HP.out s' hsl
          have hkl : k < qs1.length := by rw [HQL.out]; exact hlt
          obtain ⟨x2, hx2⟩ : ∃ y, y = ({ x with seq := s' } : PIn) := ⟨_, rfl⟩
          have hxw : x2.wit = x.wit := by rw [hx2]
          rw [← hx2] at hcv
          have hr0 : (qs1.set k (x2, wv))[k]? = some (x2, wv) := List.getElem?_set_self hkl
          have hrl : (qs1.set k (x2, wv)).length = n1 := by rw [List.length_set]; exact HQL.out
          have hsm0 : ∀ (j : Nat) (p : PIn × Value), k + 1 ≤ j → (qs1.set k (x2, wv))[j]? = some p → SmallIn p := set_later (fun j p hj hp => HSM.out j p (by omega) hp)
          have hsx : SmallIn (x, wv) := HSM.out k _ (Nat.le_refl _) HP.out
          have hbd : ∀ (j : Nat) (s : ByteArray), 0 ≤ j → x2.wit[j]? = some s → s.size ≤ 90 := fun j s _ hj => hsx.2 s (by rw [hxw] at hj; exact List.mem_of_getElem? hj)
          have hl6 : x2.wit.length ≤ 6 := by rw [hxw]; exact hsx.1
          generalize qs1.set k (x2, wv) = rs0 at *
          generalize wq.setCell ⟨vb, k * 4 + 2, none⟩ (.int .u32 s') = w1 at *
          obtain ⟨aw, cw, hwv, -, -⟩ := ownsRow_shape (hcv.ins.wit k _ hr0)
          obtain ⟨lw, hlw⟩ : ∃ n, n = x2.wit.length := ⟨_, rfl⟩
          dsimp only at hwv
          rw [← hlw] at hwv hl6
          subst hwv
          have z1 : w1.cell? ⟨A7, 1, none⟩ = some (.slice (some ⟨vb, 0, none⟩) n1 ci) := hcv.cell HN7.out HZ1.out
          obtain ⟨vb', hvb, -, -, -, -, -, d3⟩ := hcv.ins.at hr0
          obtain rfl : vb = vb' := by cases hvb; rfl
          dsimp only at d3
          have HCI := Lib.hid hcv
          have HR0 := Lib.hid (And.intro hr0 (And.intro hrl (And.intro hsm0 (And.intro hlw hbd))))
          clear hcv hr0 hrl hsm0 hbd hsx hkl hs' hsl hlw fr d2 HP HQL HSM HCV hx2 hxw
          go_wp2_with fail
          go_loopg [79] lw (fun g i wr => ∃ (q : Nat) (rs : List (PIn × Value)) (y : PIn), g = lw - q ∧ q ≤ lw ∧ i = .int .i64 q ∧ CV w wS L1 H1 (.slice (some ⟨vb, 0, none⟩) n1 ci) (.slice ao n2 co) rs ta.outs wr ∧ rs.length = n1 ∧ (∀ (j : Nat) (p : PIn × Value), k + 1 ≤ j → rs[j]? = some p → SmallIn p) ∧ rs[k]? = some (y, .slice aw lw cw) ∧ lw = y.wit.length ∧ ∀ (j : Nat) (s : ByteArray), q ≤ j → y.wit[j]? = some s → s.size ≤ 90)
          case atStart => exact ⟨0, rs0, x2, rfl, by omega, rfl, HCI.out, HR0.out.2.1, HR0.out.2.2.1, HR0.out.1, HR0.out.2.2.2.1, HR0.out.2.2.2.2⟩
          case round =>
            clear HCI HR0 z1 d3
            rename World => wi
            obtain ⟨q, rs, y, hgk2, hq, rfl, hcv, hrl, hsm, hry, hlw, hbd⟩ := hrel
            have z1 : wi.cell? ⟨A7, 1, none⟩ = some (.slice (some ⟨vb, 0, none⟩) n1 ci) := hcv.cell HN7.out HZ1.out
            obtain ⟨vb', hvb, -, -, -, -, -, d3⟩ := hcv.ins.at hry
            obtain rfl : vb = vb' := by cases hvb; rfl
            dsimp only at d3
            by_cases hql : q < lw
            · obtain ⟨s, hs⟩ : ∃ s, y.wit[q]? = some s := ⟨_, List.getElem?_eq_getElem (by omega)⟩
              have hrw := hcv.ins.wit k _ hry
              dsimp only at hrw
              rw [← hlw] at hrw
              obtain ⟨B, rfl, -, -⟩ := ownsRow_some hrw (by omega)
              have d4 : wi.cell? ⟨B, q, none⟩ = some (.string s) := by
                have := hrw.cells (g := B) rfl q (.string s) (by simp [strCells, hs])
                simpa [Addr.add_lit] using this
              have fr : wi.frozen? ⟨B, q, none⟩ = false := ownsRow_free hrw q
              have hsz : s.size ≤ 90 := hbd q s (Nat.le_refl _) hs
              have HST := Lib.hid (hcv.str hry (k := q) (by omega) (s ++ ⟨#[120]⟩) (size_x s hsz))
              have HGK2 := Lib.hid hgk2
              have HRL := Lib.hid (show (rs.set k ({ y with wit := y.wit.set q (s ++ ⟨#[120]⟩) }, .slice (some ⟨B, 0, none⟩) lw cw)).length = n1 by rw [List.length_set]; exact hrl)
              have HSM := Lib.hid (set_later (q := ({ y with wit := y.wit.set q (s ++ ⟨#[120]⟩) }, .slice (some ⟨B, 0, none⟩) lw cw)) hsm)
              have HRY := Lib.hid (show (rs.set k ({ y with wit := y.wit.set q (s ++ ⟨#[120]⟩) }, .slice (some ⟨B, 0, none⟩) lw cw))[k]? = _ from List.getElem?_set_self (by rw [hrl]; exact hlt))
              have HLW := Lib.hid (show lw = (y.wit.set q (s ++ ⟨#[120]⟩)).length by rw [List.length_set]; exact hlw)
              have HBD := Lib.hid (wit_later (s' := s ++ ⟨#[120]⟩) hbd)
              have hq6 : q < 6 := by omega
              have hqlo : (0 : Int) ≤ (q : Int) := by omega
              have hqhi : (q : Int) < lw := by omega
              have hq6i : (q : Int) < 6 := by omega
              clear hgk2 hcv hrl hsm hry hlw hbd hs hrw
              go_wp2_with fail
              go_roundg (lw - (q + 1))
              case measure => have := HGK2.out; omega
              case rel => exact ⟨q + 1, _, _, rfl, by omega, by go_num, HST.out, HRL.out, HSM.out, HRY.out, HLW.out, HBD.out⟩
            · obtain rfl : q = lw := by omega
              have HCV := Lib.hid hcv
              have HRL := Lib.hid hrl
              have HSM := Lib.hid hsm
              clear hgk2 hcv hrl hsm hry hlw hbd z1 d3
              go_wp2_with fail
              go_roundg (n1 - (k + 1))
              case measure => have := HGK.out; omega
              case rel => exact ⟨k + 1, rs, rfl, by omega, by go_num, HCV.out, HRL.out, HSM.out⟩
        · obtain rfl : k = n1 := by omega
          have z2 : wq.cell? ⟨A7, 2, none⟩ = some (.slice ao n2 co) := HCV.out.cell HN7.out HZ2.out
          go_wp2_with fail
          go_loopg [98] n2 (fun g i wr => ∃ (q : Nat) (os : List POut), g = n2 - q ∧ q ≤ n2 ∧ i = .int .i64 q ∧ CV w wS L1 H1 (.slice ai k ci) (.slice ao n2 co) qs1 os wr ∧ os.length = n2)
          case atStart => exact ⟨0, ta.outs, rfl, by omega, rfl, HCV.out, HTT.out.2.symm⟩
          case round =>
            clear HCV z2 HQL HSM
            rename World => wi
            obtain ⟨q, os, hgk2, hq, rfl, hcv, hol⟩ := hrel
            have HGK2 := Lib.hid hgk2
            by_cases hql : q < n2
            · obtain ⟨x, hx⟩ : ∃ x, os[q]? = some x := ⟨_, List.getElem?_eq_getElem (by omega)⟩
              obtain ⟨bo, rfl, -, -, -, d1⟩ := hcv.outs.at hx
              have z2 : wi.cell? ⟨A7, 2, none⟩ = some (.slice (some ⟨bo, 0, none⟩) n2 co) := hcv.cell HN7.out HZ2.out
              have fr : wi.frozen? ⟨bo, q * 2 + 1, none⟩ = false := ownsRow_free hcv.outs.row (q * 2 + 1)
              have HST := Lib.hid (hcv.out hx ⟨#[121]⟩ (by rw [maxLen_eq]; show 1 ≤ _; omega))
              have HOL := Lib.hid (show (os.set q { x with script := ⟨#[121]⟩ }).length = n2 by rw [List.length_set]; exact hol)
              have hq12 : q < 12 := by have := HL12.out; omega
              have hqlo : (0 : Int) ≤ (q : Int) := by omega
              have hqhi : (q : Int) < n2 := by omega
              have hq12i : (q : Int) < 12 := by omega
              clear hgk2 hcv hol hx
              go_wp2_with fail
              go_roundg (n2 - (q + 1))
              case measure => have := HGK2.out; omega
              case rel => exact ⟨q + 1, _, rfl, by omega, by go_num, HST.out, HOL.out⟩
            · obtain rfl : q = n2 := by omega
              have hc := HC8.out.kept HA9.out.1 HA9.out.2 hcv.keep
              have hd := HD8.out.kept HA10.out.1 HA10.out.2 hcv.keep
              have c0 : wi.cell? ⟨A9, 0, none⟩ = some (.int .u32 ta.ver) := cell_at hc.box
              have c1 : wi.cell? ⟨A9, 1, none⟩ = some (.slice ai9 n9 ci9) := cell_at hc.box
              have c2 : wi.cell? ⟨A9, 2, none⟩ = some (.slice ao9 m9 co9) := cell_at hc.box
              have c3 : wi.cell? ⟨A9, 3, none⟩ = some (.int .u32 ta.lock) := cell_at hc.box
              have d0 : wi.cell? ⟨A10, 0, none⟩ = some (.int .u32 ta.ver) := cell_at hd.box
              have d1 : wi.cell? ⟨A10, 1, none⟩ = some (.slice ai10 n10 ci10) := cell_at hd.box
              have d2 : wi.cell? ⟨A10, 2, none⟩ = some (.slice ao10 m10 co10) := cell_at hd.box
              have d3 : wi.cell? ⟨A10, 3, none⟩ = some (.int .u32 ta.lock) := cell_at hd.box
              have HE := Lib.hid (same_yes (t := ta) rfl ▸ same_any _ _ ta ta wi hc.own.tx hd.own.tx)
              have HB := Lib.hid hcv.bel
              clear hc hd hcv hol hgk2
              go_wp2_with fail
              refine HE.out.mono ?_
              rintro en wf ⟨rfl, hb⟩
              go_wp2_with fail
              go_ret
              exact ⟨rfl, HB.out.trans (hb.mono HB.out.size)⟩
end Go.Proofs.Ytjbpaknjiplakaa
