/-
  The document's Add of an entry. Conditions: entries and transaction lie in memory.
-/
import Derived.Test.YtfkcldaogfengaaMk
import Derived.Test.YtfkcldaogfengaaIa
import Derived.Test.YtfkcldaogfengaaTxWh
namespace Go.Proofs.Ytfkcldaogfengaa
open Go.RowKit Go.BigFrame
set_option linter.unusedVariables false
set_option linter.unusedSimpArgs false

def spentL (l : List PE) (i : PIn) : Bool := l.any fun x => x.tx.ins.any (spentI (i.id, i.idx))
def newE (t : PTx) (fee : Int) : PE := ⟨t, tw (encL t false), fee, (weigh t + 3) / 4⟩
/-- The first In spends the base point. -/
def firstBase (t : PTx) : Bool := match t.ins with | [] => false | i :: _ => isBase i.id i.idx
noncomputable def addL (l : List PE) (t : PTx) (fee : Int) : List PE :=
  if checkOf t ≠ 0 then l else if firstBase t = true then l else if goodA fee = false then l else if (l.any fun x => decide (x.id = tw (encL t false))) = true then l
  else if t.ins.any (spentL l) = true then l else l ++ [newE t fee]
def AddP (l : List PE) (w : World) (e : Ending) (w' : World) : Prop := ∃ (v : Value) (c : Int), e = .returned (.tuple #[v, .int .i64 c]) ∧ SlAt rpE w' v l ∧ Below w.heap.size w w'

/-! ### a row of entries of the call's own -/
abbrev EnV := PE × Value × Value
def enRow7 (p : EnV) : List Value := entC p.1 p.2.1 p.2.2
theorem enRow7_len (p : EnV) : (enRow7 p).length = 7 := rfl
structure EnR (base : Nat) (wS w : World) (v : Value) (ps : List EnV) : Prop where
  row : w.ownsRow base 43 7 v ps.length (ps.flatMap enRow7)
  ok : ∀ p ∈ ps, EntAt wS p.2.1 p.2.2 p.1
  bel : Below wS.heap.size wS w
  base : wS.heap.size ≤ base
theorem EnR.sl {base : Nat} {wS w : World} {v : Value} {ps : List EnV} (h : EnR base wS w v ps) : SlAt rpE w v (ps.map (·.1)) := by
  obtain ⟨a, c, e, h1, h2⟩ := ownsRow_shape h.row
  subst e
  refine ⟨a, c, by rw [List.length_map], by rw [List.length_map]; exact h1, h2, fun i x hi => ?_⟩
  rw [List.getElem?_map] at hi
  obtain ⟨p, hp, rfl⟩ := Option.map_eq_some_iff.1 hi
  have hil : i < ps.length := (List.getElem?_eq_some_iff.1 hp).1
  obtain ⟨b, rfl, hb, hb2⟩ := ownsRow_some h.row (by omega)
  have hx := (h.ok p (List.mem_of_getElem? hp)).below h.bel
  refine ⟨b, 0, enRow7 p, rfl, rfl, fun j u hj => ?_, p.2.1, p.2.2, rfl, hx.ins, hx.outs, hx.ok⟩
  have hj7 : j < 7 := (List.getElem?_eq_some_iff.1 hj).1
  have := h.row.cells (g := b) rfl (i * 7 + j) u (by rw [flat_at enRow7 7 enRow7_len ps i p hp j hj7]; exact hj)
  rw [Addr.add_lit] at this
  simpa [rpE] using this
theorem info_en7 : (Try.prog.info? 43).map (fun i => (i.zero, i.size, i.bytes)) = some (some (.agg #[.int .u32 0, .slice none 0 0, .slice none 0 0, .int .u32 0, .string ByteArray.empty, .int .i64 0, .int .i64 0]), 7, 96) := by kernel_rfl
theorem EnR.app {base : Nat} {wS w : World} {v va vb : Value} {ps : List EnV} {x : PE} (h : EnR base wS w v ps) (hx : EntAt wS va vb x) (h1 : va.oneCell' = true) (h2 : vb.oneCell' = true) (hn : ps.length < 1000000) (hb : base ≤ w.heap.size) :
    ∃ a' c' w', (Builtin.append_ #[24, 24] 24 #[v, .slice (some ⟨w.heap.size, 0, none⟩) 1 1]).run Try.prog (w.alloc (.cells #[.int .u32 x.tx.ver, va, vb, .int .u32 x.tx.lock, .string x.id, .int .i64 x.fee, .int .i64 x.size] 43)) = .ok (.slice a' (ps.length + 1) c') w' ∧
      EnR base wS w' (.slice a' (ps.length + 1) c') (ps ++ [(x, va, vb)]) ∧ Below base w w' := by
  obtain ⟨i0, hi, hz0, hz1, hz2⟩ := info_parts info_en7
  obtain ⟨a2, c2, w2, hrun, hown2, hb2, hg2, hv2⟩ := append_one (P := Try.prog) Try.underlying24 hi hz0 hz1 hz2 rfl h.row #[.int .u32 x.tx.ver, va, vb, .int .u32 x.tx.lock, .string x.id, .int .i64 x.fee, .int .i64 x.size] rfl (by
    intro u hu; simp only [List.mem_cons, List.not_mem_nil, or_false] at hu; rcases hu with rfl | rfl | rfl | rfl | rfl | rfl | rfl; rfl; exact h1; exact h2; rfl; rfl; rfl; rfl) (by rw [maxLen_eq]; omega) (by omega) hb (ty := 24)
  refine ⟨a2, c2, w2, hrun, ⟨?_, fun p hp => ?_, h.bel.trans (hb2.mono h.base), h.base⟩, hb2⟩
  · rw [List.length_append, List.flatMap_append]
    simpa [enRow7, entC] using hown2
  · rcases List.mem_append.1 hp with hp | hp
    · exact h.ok p hp
    · rw [List.mem_singleton.1 hp]; exact hx
theorem EnR.below {base : Nat} {wS w w' : World} {v : Value} {ps : List EnV} (h : EnR base wS w v ps) (hb : Below w.heap.size w w') : EnR base wS w' v ps := ⟨ownsRow_below h.row hb, h.ok, h.bel.trans (hb.mono h.bel.size), h.base⟩
set_option maxRecDepth 100000 in
set_option maxHeartbeats 4000000 in
theorem add14_any (sl tv : Value) (l : List PE) (t : PTx) (fee : Int) (w : World) (hsl : SlAt rpE w sl l) (ht : TxAt w tv t) (hlen : t.outs.length ≤ 1000) (hl : l.length ≤ 1000) (hfee : -9223372036854775808 ≤ fee ∧ fee ≤ 9223372036854775807) :
    Calls Try.prog 21 #[sl, tv, .int .i64 fee] w (AddP (addL l t fee) w) := by
  obtain ⟨R, hR⟩ : ∃ R, R = addL l t fee := ⟨_, rfl⟩
  rw [← hR]
  unfold addL at hR
  have HR := Lib.hid hR
  have HSL := Lib.hid hsl
  have HFEE := Lib.hid hfee
  obtain ⟨ta, tb', rfl, ht1, ht2, ht3, ht4⟩ := ht
  obtain ⟨a, c, rfl, hl1, hl2⟩ := hsl.shape
  obtain ⟨a1, c1, rfl, hi1, hi2⟩ := ht1.shape
  obtain ⟨a2, c2, rfl, -, -⟩ := ht2.shape
  rw [maxLen_eq] at hl2 hi2
  have HTX := Lib.hid (show TxAt w (.agg #[.int .u32 t.ver, .slice a1 t.ins.length c1, .slice a2 t.outs.length c2, .int .u32 t.lock]) t from ⟨_, _, rfl, ht1, ht2, ht3, ht4⟩)
  obtain ⟨n, hn⟩ : ∃ n, n = l.length := ⟨_, rfl⟩
  obtain ⟨m, hm⟩ : ∃ m, m = t.ins.length := ⟨_, rfl⟩
  rw [← hn] at hl1 HSL hl ⊢
  rw [← hm] at hi1 HTX ht1 ⊢
  have HIN := Lib.hid ht1
  have HOUT := Lib.hid ht2
  have HVL := Lib.hid (And.intro ht3 ht4)
  have HN := Lib.hid hn
  have HM := Lib.hid hm
  have HLEN := Lib.hid hlen
  clear hn hm hsl ht1 ht2 hlen hR hfee
  go_enter Try.func21, Try.ntmps21
  go_upto_region 1 with fail
  have hz := heap_alloc_new w (.cells #[.int .u32 t.ver, .slice a1 m c1, .slice a2 t.outs.length c2, .int .u32 t.lock] 41)
  have hal : Below w.heap.size w (w.alloc (.cells #[.int .u32 t.ver, .slice a1 m c1, .slice a2 t.outs.length c2, .int .u32 t.lock] 41)) := (Below.refl _ _).alloc (Nat.le_refl _) _
  obtain ⟨X, hX⟩ : ∃ q, q = w.heap.size := ⟨_, rfl⟩
  rw [← hX] at hz ⊢
  generalize w.alloc (.cells #[.int .u32 t.ver, .slice a1 m c1, .slice a2 t.outs.length c2, .int .u32 t.lock] 41) = w0 at *
  have HB0 := Lib.hid hal
  have HX0 := Lib.hid hz
  have x0 : w0.cell? ⟨X, 0, none⟩ = some (.int .u32 t.ver) := cell_at hz
  have x1 : w0.cell? ⟨X, 1, none⟩ = some (.slice a1 m c1) := cell_at hz
  have x2 : w0.cell? ⟨X, 2, none⟩ = some (.slice a2 t.outs.length c2) := cell_at hz
  have x3 : w0.cell? ⟨X, 3, none⟩ = some (.int .u32 t.lock) := cell_at hz
  clear hz hal hX
  obtain ⟨ck, hck⟩ : ∃ ck, ck = checkOf t := ⟨_, rfl⟩
  have hch := rcheck_any _ t w0 (HTX.out.below HB0.out) HLEN.out
  rw [← hck] at hch
  have HCH := Lib.hid hch
  have HCK := Lib.hid hck
  clear hch hck
  go_wp2_with fail
  refine HCH.out.mono ?_
  rintro e w1 ⟨rfl, hxc⟩
  have HB1 := Lib.hid (HB0.out.trans (hxc.mono HB0.out.size))
  replace x0 := below_cells hxc _ _ x0
  replace x1 := below_cells hxc _ _ x1
  replace x2 := below_cells hxc _ _ x2
  replace x3 := below_cells hxc _ _ x3
  have HX1 := Lib.hid (stay HX0.out hxc)
  clear hxc HCH HB0 HX0
  by_cases hc0 : ck = 0
  rotate_left
  · have HR2 := Lib.hid (HR.out.trans (if_pos (by rw [← HCK.out]; exact hc0)))
    have hcb : (ck == 0) = false := by rw [beq_eq_false_iff_ne]; exact hc0
    go_wp2_with fail
    go_ret2
    exact ⟨_, _, rfl, by rw [HR2.out]; exact HSL.out.below HB1.out, HB1.out⟩
  subst hc0
  have HCK2 := Lib.hid HCK.out.symm
  have HR2 := Lib.hid (HR.out.trans (if_neg (by rw [HCK2.out]; exact fun h => h rfl)))
  have hcnt := (counts_parts (whole_of HCK2.out).counts).1
  rw [← HM.out] at hcnt
  have hm1 : 0 < m := by omega
  clear hcnt
  obtain ⟨ib, io, y, yv, rfl, hy, -, hyi, hys, -, i0, i1, -, -⟩ := (HIN.out.below HB1.out).inp hm1
  rw [show io + 0 * 4 = io by omega] at i0
  rw [show io + 0 * 4 + 1 = io + 1 by omega] at i1
  have hfb : firstBase t = isBase y.id y.idx := by
    unfold firstBase
    cases hti : t.ins with
    | nil => rw [hti] at hy; cases hy
    | cons z r =>
      rw [hti] at hy
      obtain rfl : z = y := by simpa using hy
      rfl
  obtain ⟨gb, hgb⟩ : ∃ gb, gb = isBase y.id y.idx := ⟨_, rfl⟩
  have HBA := Lib.hid (hgb ▸ rbase_any y.id y.idx hyi hys w1)
  have HFB := Lib.hid (hfb.trans hgb.symm)
  clear hy hfb hgb
  go_wp2_with fail
  refine HBA.out.mono ?_
  rintro e w2 ⟨rfl, hxc⟩
  have HB2 := Lib.hid (HB1.out.trans (hxc.mono HB1.out.size))
  replace x0 := below_cells hxc _ _ x0
  replace x1 := below_cells hxc _ _ x1
  replace x2 := below_cells hxc _ _ x2
  replace x3 := below_cells hxc _ _ x3
  have HX2 := Lib.hid (stay HX1.out hxc)
  clear hxc HBA HB1 HX1 i0 i1
  cases gb
  rotate_left
  · have HR3 := Lib.hid (HR2.out.trans (if_pos HFB.out))
    go_wp2_with fail
    go_ret2
    exact ⟨_, _, rfl, by rw [HR3.out]; exact HSL.out.below HB2.out, HB2.out⟩
  have HR3 := Lib.hid (HR2.out.trans (if_neg (by rw [HFB.out]; decide)))
  obtain ⟨gd, hgd⟩ : ∃ gd, gd = goodA fee := ⟨_, rfl⟩
  have HGD := Lib.hid (hgd ▸ rgood_any fee w2)
  have HGE := Lib.hid hgd
  clear hgd
  go_wp2_with fail
  refine HGD.out.mono ?_
  rintro e w' ⟨rfl, rfl⟩
  clear HGD
  cases gd
  · have HR4 := Lib.hid (HR3.out.trans (if_pos HGE.out.symm))
    go_wp2_with fail
    go_ret2
    exact ⟨_, _, rfl, by rw [HR4.out]; exact HSL.out.below HB2.out, HB2.out⟩
  have HR4 := Lib.hid (HR3.out.trans (if_neg (by rw [← HGE.out]; decide)))
  go_wp2_with fail
  refine (rid_any _ t w2 (HTX.out.below HB2.out) HCK2.out).mono ?_
  rintro e w3 ⟨rfl, hxc⟩
  have HB3 := Lib.hid (HB2.out.trans (hxc.mono HB2.out.size))
  replace x0 := below_cells hxc _ _ x0
  replace x1 := below_cells hxc _ _ x1
  replace x2 := below_cells hxc _ _ x2
  replace x3 := below_cells hxc _ _ x3
  have HX3 := Lib.hid (stay HX2.out hxc)
  clear hxc HB2 HX2
  obtain ⟨id, hid⟩ : ∃ id, id = tw (encL t false) := ⟨_, rfl⟩
  rw [← hid]
  have HID := Lib.hid hid
  have hr4 := HR4.out
  rw [← hid] at hr4
  have HR4 := Lib.hid hr4
  clear hid hr4
  go_wp2_with fail
  refine (find14_any _ l id w3 (HSL.out.below HB3.out)).mono ?_
  rintro e w4 ⟨r, rfl, hr, hxc⟩
  have HB4 := Lib.hid (HB3.out.trans (hxc.mono HB3.out.size))
  replace x0 := below_cells hxc _ _ x0
  replace x1 := below_cells hxc _ _ x1
  replace x2 := below_cells hxc _ _ x2
  replace x3 := below_cells hxc _ _ x3
  have HFD := Lib.hid hr
  have HX4 := stay HX3.out hxc
  have HXH := Lib.hid HX4
  clear hxc HB3 hr HX3 HX4
  by_cases hr0 : 0 ≤ r
  · have HR5 := Lib.hid (HR4.out.trans (if_pos (HFD.out.1 hr0)))
    go_wp2_with fail
    go_ret2
    exact ⟨_, _, rfl, by rw [HR5.out]; exact HSL.out.below HB4.out, HB4.out⟩
  have HR5 := Lib.hid (HR4.out.trans (if_neg (fun h => hr0 (HFD.out.2 h))))
  clear HR HR2 HR3 HR4
  have HZ4 := Lib.hid (show w4.heap[X]? = some (.cells #[.int .u32 t.ver, .slice (some ⟨ib, io, none⟩) m c1, .slice a2 t.outs.length c2, .int .u32 t.lock] 41 (0, 0)) from HXH.out)
  clear x0 x1 x2 x3
  have x1 : w4.cell? ⟨X, 1, none⟩ = some (.slice (some ⟨ib, io, none⟩) m c1) := cell_at HZ4.out
  go_upto_block 0 with fail
  go_cut [] (fun wx => t.ins.any (spentL l) = false ∧ Below w.heap.size w wx ∧ wx.heap[X]? = some (.cells #[.int .u32 t.ver, .slice (some ⟨ib, io, none⟩) m c1, .slice a2 t.outs.length c2, .int .u32 t.lock] 41 (0, 0)))
  case first =>
    go_wp2_with fail
    go_loopg [12, 13] m (fun g v12 i wr => ∃ k : Nat, g = m - k ∧ k ≤ m ∧ i = .int .i64 k ∧ Below w.heap.size w wr ∧ wr.heap[X]? = some (.cells #[.int .u32 t.ver, .slice (some ⟨ib, io, none⟩) m c1, .slice a2 t.outs.length c2, .int .u32 t.lock] 41 (0, 0)) ∧ ∀ (j : Nat) (y : PIn), j < k → t.ins[j]? = some y → spentL l y = false)
    case atStart => exact ⟨0, rfl, by omega, rfl, HB4.out, HZ4.out, fun j y hj => absurd hj (Nat.not_lt_zero _)⟩
    case round =>
      clear HB4 HZ4 x1
      rename World => wo
      obtain ⟨k, hgk, hk, rfl, hb, hz, hno⟩ := hrel
      have HGK := Lib.hid hgk
      have HNO := Lib.hid hno
      have HB := Lib.hid hb
      have HZ := Lib.hid hz
      have x1 : wo.cell? ⟨X, 1, none⟩ = some (.slice (some ⟨ib, io, none⟩) m c1) := cell_at hz
      clear hgk hno hb hz
      by_cases hlt : k < m
      · obtain ⟨jb, jo, z, zv, hja, hzz, -, hzi, hzs, -, i0, i1, -, -⟩ := (HIN.out.below HB.out).inp hlt
        obtain ⟨rfl, rfl⟩ : ib = jb ∧ io = jo := by simpa using hja
        have HZZ := Lib.hid hzz
        clear hja hzz
        have HSP := Lib.hid (spender_any _ l (z.id, z.idx) wo (HSL.out.below HB.out) hzi)
        go_wp2_with fail
        refine HSP.out.mono ?_
        rintro e w5 ⟨r, rfl, hr, hxc⟩
        have HB5 := Lib.hid (HB.out.trans (hxc.mono HB.out.size))
        have HZ5 := Lib.hid (stay HZ.out hxc)
        have HRR := Lib.hid (show 0 ≤ r ↔ spentL l z = true from hr)
        clear hxc hr HSP x1 i0 i1
        by_cases hr0 : 0 ≤ r
        · have HR6 := Lib.hid (HR5.out.trans (if_pos (List.any_eq_true.2 ⟨z, List.mem_of_getElem? HZZ.out, HRR.out.1 hr0⟩)))
          go_wp2_with fail
          go_ret2
          exact ⟨_, _, rfl, by rw [HR6.out]; exact HSL.out.below HB5.out, HB5.out⟩
        · have hfl : spentL l z = false := by
            cases h : spentL l z with
            | false => rfl
            | true => exact absurd (HRR.out.2 h) hr0
          have HNX := Lib.hid (before_step HNO.out HZZ.out hfl)
          clear hfl
          go_wp2_with fail
          go_roundg (m - (k + 1))
          case measure => have := HGK.out; omega
          case rel => exact ⟨k + 1, rfl, by omega, by go_num, HB5.out, HZ5.out, HNX.out⟩
      · obtain rfl : m = k := by omega
        go_wp2_with fail
        go_meet
        exact ⟨any_not HM.out HNO.out, HB.out, HZ.out⟩
  case rest =>
    obtain ⟨hsp, hb, hz⟩ := hcut
    rename World => w5
    have HR6 := Lib.hid (HR5.out.trans (if_neg (by rw [hsp]; decide)))
    have HB5 := Lib.hid hb
    have HZ5 := Lib.hid hz
    have x0 : w5.cell? ⟨X, 0, none⟩ = some (.int .u32 t.ver) := cell_at hz
    have x1 : w5.cell? ⟨X, 1, none⟩ = some (.slice (some ⟨ib, io, none⟩) m c1) := cell_at hz
    have x2 : w5.cell? ⟨X, 2, none⟩ = some (.slice a2 t.outs.length c2) := cell_at hz
    have x3 : w5.cell? ⟨X, 3, none⟩ = some (.int .u32 t.lock) := cell_at hz
    clear hsp hb hz HB4 HZ4 HR5
    go_wp2_with fail
    refine (rsize_any _ t w5 (HTX.out.below HB5.out) HCK2.out).mono ?_
    rintro e w6 ⟨rfl, hxc⟩
    have HB6 := Lib.hid (HB5.out.trans (hxc.mono HB5.out.size))
    have HZ6 := Lib.hid (stay HZ5.out hxc)
    clear hxc x0 x1 x2 x3 HB5 HZ5
    obtain ⟨si, hsi⟩ : ∃ si, si = (weigh t + 3) / 4 := ⟨_, rfl⟩
    rw [← hsi]
    have HSI := Lib.hid hsi
    clear hsi
    obtain ⟨C, hC⟩ : ∃ C, C = w6.heap.size := ⟨_, rfl⟩
    have HWC := Lib.hid (show w.heap.size ≤ C ∧ X < C by have := HB6.out.size; have := lt_of HZ6.out; omega)
    have HER := Lib.hid (show EnR C w w6 (.slice none 0 0) [] from ⟨World.ownsRow_nil _ _ _ _, fun p hp => by simp at hp, HB6.out, HWC.out.1⟩)
    have HC6 := Lib.hid (show C ≤ w6.heap.size by omega)
    clear hC
    go_wp2_with fail
    go_loopg [15, 16] n (fun g v i wr => ∃ (k : Nat) (ps : List EnV) (oa : Option Addr) (oc : Nat), g = n - k ∧ k ≤ n ∧ i = .int .i64 k ∧ v = .slice oa ps.length oc ∧ EnR C w wr v ps ∧ ps.map (·.1) = l.take k ∧ C ≤ wr.heap.size ∧ wr.heap[X]? = some (.cells #[.int .u32 t.ver, .slice (some ⟨ib, io, none⟩) m c1, .slice a2 t.outs.length c2, .int .u32 t.lock] 41 (0, 0)))
    case atStart => exact ⟨0, [], none, 0, rfl, by omega, rfl, rfl, HER.out, by simp, HC6.out, HZ6.out⟩
    case round =>
      clear HER HC6 HZ6 HB6
      rename World => wo
      obtain ⟨k, ps, oa, oc, hgk, hk, rfl, rfl, her, hpe, hcs, hz⟩ := hrel
      have HGK := Lib.hid hgk
      have HER := Lib.hid her
      have HPE := Lib.hid hpe
      have HCS := Lib.hid hcs
      have HZ := Lib.hid hz
      have HPL := Lib.hid (show ps.length = k by
        have h := congrArg List.length hpe
        rw [List.length_map, List.length_take] at h
        have := HN.out
        omega)
      obtain ⟨pl, hpl⟩ : ∃ pl, pl = ps.length := ⟨_, rfl⟩
      rw [← hpl] at HER HPL ⊢
      have HPLE := Lib.hid hpl
      clear hgk her hpe hcs hz hpl
      by_cases hlt : k < n
      · obtain ⟨sb, so, x, ia, ni, ic, oa', no, oc', rfl, hx, hxe, -, d0, d1, d2, d3, d4, d5, d6⟩ := HSL.out.ent hlt
        obtain ⟨a8, c8, wd, hrun, her8, hb8⟩ := HER.out.app hxe rfl rfl (by have := HPL.out; have := HPLE.out; omega) HCS.out
        rw [← HPLE.out] at hrun her8
        have HR8 := Lib.hid hrun
        have HER8 := Lib.hid her8
        have HCS8 := Lib.hid (Nat.le_trans HCS.out hb8.size)
        have HZ8 := Lib.hid ((hb8.block X HWC.out.2).trans HZ.out)
        have HTK := Lib.hid (show l.take (k + 1) = l.take k ++ [x] from take_snoc hx)
        replace d0 := below_cells HER.out.bel _ _ d0
        replace d1 := below_cells HER.out.bel _ _ d1
        replace d2 := below_cells HER.out.bel _ _ d2
        replace d3 := below_cells HER.out.bel _ _ d3
        replace d4 := below_cells HER.out.bel _ _ d4
        replace d5 := below_cells HER.out.bel _ _ d5
        replace d6 := below_cells HER.out.bel _ _ d6
        clear hrun her8 hb8 hx hxe
        go_wp2_with (at_builtin; refine wpList_append_run rfl (.tmp 70) (.tmp 75) 24 24 rfl rfl rfl HR8.out ?_)
        go_roundg (n - (k + 1))
        case measure => have := HGK.out; omega
        case rel => exact ⟨k + 1, _, a8, c8, rfl, by omega, by go_num, by rw [List.length_append, ← HPLE.out]; rfl, HER8.out, by rw [List.map_append, HPE.out, HTK.out]; rfl, HCS8.out, HZ8.out⟩
      · obtain rfl : n = k := by omega
        have hle := weigh_le (enc_of (whole_of HCK2.out))
        have hxe : EntAt w (.slice (some ⟨ib, io, none⟩) m c1) (.slice a2 t.outs.length c2) (newE t fee) := ⟨HIN.out, HOUT.out, ⟨HVL.out.1, HVL.out.2, by show (tw _).size ≤ _; rw [tw_size]; decide, HFEE.out, by show -9223372036854775808 ≤ (weigh t + 3) / 4 ∧ (weigh t + 3) / 4 ≤ 9223372036854775807; omega⟩⟩
        obtain ⟨a8, c8, wd, hrun, her8, hb8⟩ := HER.out.app hxe rfl rfl (by have := HPL.out; have := HPLE.out; omega) HCS.out
        rw [← HPLE.out] at hrun her8
        have hrun2 : (Builtin.append_ #[24, 24] 24 #[.slice oa pl oc, .slice (some ⟨wo.heap.size, 0, none⟩) 1 1]).run Try.prog (wo.alloc (.cells #[.int .u32 t.ver, .slice (some ⟨ib, io, none⟩) m c1, .slice a2 t.outs.length c2, .int .u32 t.lock, .string id, .int .i64 fee, .int .i64 si] 43)) = .ok (.slice a8 (pl + 1) c8) wd := by
          rw [HID.out, HSI.out]
          exact hrun
        have HR8 := Lib.hid hrun2
        have HER8 := Lib.hid her8
        have HFIN := Lib.hid (show R = ps.map (·.1) ++ [newE t fee] by rw [HR6.out, HPE.out, HN.out, List.take_length])
        have x0 : wo.cell? ⟨X, 0, none⟩ = some (.int .u32 t.ver) := cell_at HZ.out
        have x1 : wo.cell? ⟨X, 1, none⟩ = some (.slice (some ⟨ib, io, none⟩) m c1) := cell_at HZ.out
        have x2 : wo.cell? ⟨X, 2, none⟩ = some (.slice a2 t.outs.length c2) := cell_at HZ.out
        have x3 : wo.cell? ⟨X, 3, none⟩ = some (.int .u32 t.lock) := cell_at HZ.out
        clear hle hxe hrun her8 hb8 hrun2
        go_wp2_with (at_builtin; refine wpList_append_run rfl (.tmp 77) (.tmp 83) 24 24 rfl rfl rfl HR8.out ?_)
        go_ret2
        refine ⟨_, _, rfl, ?_, HER8.out.bel⟩
        have h := HER8.out.sl
        rw [List.map_append] at h
        rw [HFIN.out]
        exact h
end Go.Proofs.Ytfkcldaogfengaa
