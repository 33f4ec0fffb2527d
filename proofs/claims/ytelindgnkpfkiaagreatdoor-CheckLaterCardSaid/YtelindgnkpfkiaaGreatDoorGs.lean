/-
  CheckKeeps: the walk. Conditions: the job lies in memory; errors.errorType holds its handle.
-/
import Derived.Test.YtelindgnkpfkiaaGreatDoorGr
namespace Go.Proofs.YtelindgnkpfkiaaGreatDoor
open Go.RowKit Go.BigFrame
set_option linter.unusedVariables false
set_option linter.unusedSimpArgs false

/-- The set and the transaction, apart from each other. -/
structure KpI (w : World) (B N b m : Nat) (lc : CL) (c : Nat) (tot : Int) (T : Nat) (vt : Value) (cs : Array Value) (t : PTx) (vi : Value) (ps : List (PIn × Value)) (wr : World) : Prop where
  bel : Below w.heap.size w wr
  set : CsAt B wr b m lc c tot
  own : TxOwn N wr vt t
  ins : InsOwn N wr vi ps
  box : wr.heap[T]? = some (.cells cs 35 (0, 0))
theorem KpI.below {w : World} {B N b m : Nat} {lc : CL} {c : Nat} {tot : Int} {T : Nat} {vt : Value} {cs : Array Value} {t : PTx} {vi : Value} {ps : List (PIn × Value)} {wr w' : World} (h : KpI w B N b m lc c tot T vt cs t vi ps wr) (hb : Below wr.heap.size wr w') : KpI w B N b m lc c tot T vt cs t vi ps w' :=
  ⟨h.bel.trans (hb.mono h.bel.size), h.set.below hb, h.own.below hb, h.ins.below hb, stay h.box hb⟩
theorem txOwn_kept {base : Nat} {w w' : World} {v : Value} {t : PTx} (h : TxOwn base w v t) (hk : ∀ b, base ≤ b → b < w.heap.size → w'.heap[b]? = w.heap[b]?) : TxOwn base w' v t := by
  obtain ⟨⟨vi, vo, ps, rfl, hp, h1, h2, h3⟩, h4, h5⟩ := h
  exact ⟨⟨vi, vo, ps, rfl, hp, h1.kept fun b hb => hk b (h1.lt hb).1 (h1.lt hb).2, h2.kept fun b hb => hk b (h2.row.lt b hb).1 (h2.row.lt b hb).2, h3⟩, h4, h5⟩
/-- Something was put into the set, or taken out of it. -/
theorem KpI.turn {w : World} {B N b m : Nat} {lc lc' : CL} {c c' : Nat} {tot tot' : Int} {T : Nat} {vt : Value} {cs : Array Value} {t : PTx} {vi : Value} {ps : List (PIn × Value)} {wr w' : World} (h : KpI w B N b m lc c tot T vt cs t vi ps wr) (hw : w.heap.size ≤ B) (hbN : b < N ∧ m < N) (hT : T ≠ b ∧ T ≠ m) (hfr : Fr [b, m] wr w') (hs : CsAt B w' b m lc' c' tot') :
    KpI w B N b m lc' c' tot' T vt cs t vi ps w' := by
  have hk : ∀ k, N ≤ k → k < wr.heap.size → w'.heap[k]? = wr.heap[k]? := fun k h1 h2 => hfr.block k h2 (by simp; omega)
  refine ⟨h.bel.trans (hfr.below h.bel.size (by have := h.set.blo; have := h.set.mlo; intro k hk; simp at hk; omega)), hs, txOwn_kept h.own hk, h.ins.kept fun k hk' => hk k (h.ins.lt hk').1 (h.ins.lt hk').2, (hfr.block T (lt_of h.box) (by simp; omega)).trans h.box⟩
set_option maxRecDepth 100000 in
set_option maxHeartbeats 8000000 in
theorem keeps_walk (v : Value) (j : PJb) (w : World) (hj : JobAt w v j) (hg : HdAt w) : Calls Tryz.prog 5 #[v] w fun e w' => e = .returned (.bool true) ∧ Below w.heap.size w w' := by
  obtain ⟨vc, vs, vo, rfl, hc, hs, ho, hver, hlock, hht0, hht1⟩ := hj
  obtain ⟨lj, ls, lo0, ver, lock, ht⟩ := j
  have HG := Lib.hid hg
  have HJ := Lib.hid (And.intro hc (And.intro hs ho))
  have HV := Lib.hid (And.intro hver hlock)
  clear hg hc hs ho hver hlock
  go_enter Tryz.func5, Tryz.ntmps5
  go_upto_region 1 with fail
  have hz := heap_alloc_new w (.cells #[vc, vs, vo, .int .u32 ver, .int .u32 lock, .int .i64 ht] 27)
  have hal : Below w.heap.size w (w.alloc (.cells #[vc, vs, vo, .int .u32 ver, .int .u32 lock, .int .i64 ht] 27)) := (Below.refl _ _).alloc (Nat.le_refl _) _
  obtain ⟨X, hX⟩ : ∃ q, q = w.heap.size := ⟨_, rfl⟩
  rw [← hX] at hz ⊢
  generalize w.alloc (.cells #[vc, vs, vo, .int .u32 ver, .int .u32 lock, .int .i64 ht] 27) = w0 at *
  have HZ0 := Lib.hid hz
  have HB0 := Lib.hid hal
  have HJ0 := Lib.hid (And.intro (HJ.out.1.below hal) (And.intro (HJ.out.2.1.below hal) (HJ.out.2.2.below hal)))
  have x0 : w0.cell? ⟨X, 0, none⟩ = some vc := cell_at hz
  have x1 : w0.cell? ⟨X, 1, none⟩ = some vs := cell_at hz
  have x2 : w0.cell? ⟨X, 2, none⟩ = some vo := cell_at hz
  have x3 : w0.cell? ⟨X, 3, none⟩ = some (.int .u32 ver) := cell_at hz
  have x4 : w0.cell? ⟨X, 4, none⟩ = some (.int .u32 lock) := cell_at hz
  have x5 : w0.cell? ⟨X, 5, none⟩ = some (.int .i64 ht) := cell_at hz
  have HXw := Lib.hid (show w.heap.size ≤ X by omega)
  clear hz hal hX
  go_wp2_with fail
  refine (held_any vc vs vo lj ver lock ht w0 HJ0.out.1).mono ?_
  rintro e w1 ⟨b, m, vl, lc, c, tot, le, S, rfl, hh, hle, hS, hb⟩
  have HH1 := Lib.hid hh
  have HZ1 := Lib.hid (stay HZ0.out hb)
  have HB1 := Lib.hid (HB0.out.trans (hb.mono HB0.out.size))
  have HJ1 := Lib.hid (And.intro (HJ0.out.1.below hb) (And.intro (HJ0.out.2.1.below hb) (HJ0.out.2.2.below hb)))
  have HS := Lib.hid (And.intro hle hS)
  replace x0 := below_cells hb _ _ x0
  replace x1 := below_cells hb _ _ x1
  replace x2 := below_cells hb _ _ x2
  replace x3 := below_cells hb _ _ x3
  replace x4 := below_cells hb _ _ x4
  replace x5 := below_cells hb _ _ x5
  clear hh hb hle hS
  dsimp only
  go_wp2_with fail
  refine (spendJ_any vc vs vo lj ls lo0 ver lock ht w1 HJ1.out.1 HJ1.out.2.1 HJ1.out.2.2 HV.out.1 HV.out.2).mono ?_
  rintro e w2 ⟨vt, t, rfl, hto, hlo, hli, hb⟩
  have HTO := Lib.hid hto
  have HL := Lib.hid (And.intro hlo hli)
  have HH2 := Lib.hid (HH1.out.below hb)
  have HB2 := Lib.hid (HB1.out.trans (hb.mono HB1.out.size))
  replace x5 := below_cells hb _ _ x5
  obtain ⟨⟨vi, vo2, ps, rfl, hps, hio, hoo, -⟩, -, -⟩ := hto
  obtain ⟨ai, ci, rfl, -, -⟩ := ownsRow_shape hio.row
  obtain ⟨ao, co, rfl, -, -⟩ := ownsRow_shape hoo.row
  have HIO := Lib.hid hio
  have HPS := Lib.hid hps
  have HSZ := Lib.hid (And.intro (HB0.out.size) (And.intro HH1.out.set.lt hb.size))
  clear hb hlo hli hio hoo hps x0 x1 x2 x3 x4 HZ0 HZ1 HJ HJ0 HJ1 HB1
  dsimp only
  go_upto_region 3 with fail
  have hz := heap_alloc_new w2 (.cells #[.int .u32 t.ver, .slice ai ps.length ci, .slice ao t.outs.length co, .int .u32 t.lock] 35)
  have hal : Below w2.heap.size w2 (w2.alloc (.cells #[.int .u32 t.ver, .slice ai ps.length ci, .slice ao t.outs.length co, .int .u32 t.lock] 35)) := (Below.refl _ _).alloc (Nat.le_refl _) _
  obtain ⟨T, hT⟩ : ∃ q, q = w2.heap.size := ⟨_, rfl⟩
  rw [← hT] at hz ⊢
  generalize w2.alloc (.cells #[.int .u32 t.ver, .slice ai ps.length ci, .slice ao t.outs.length co, .int .u32 t.lock] 35) = w3 at *
  have HKP := Lib.hid (show KpI w w0.heap.size w1.heap.size b m lc c tot T (.agg #[.int .u32 t.ver, .slice ai ps.length ci, .slice ao t.outs.length co, .int .u32 t.lock]) #[.int .u32 t.ver, .slice ai ps.length ci, .slice ao t.outs.length co, .int .u32 t.lock] t (.slice ai ps.length ci) ps w3 from
    ⟨HB2.out.trans (hal.mono HB2.out.size), HH2.out.set.below hal, HTO.out.below hal, HIO.out.below hal, hz⟩)
  have HNE := Lib.hid (show (b < w1.heap.size ∧ m < w1.heap.size) ∧ T ≠ b ∧ T ≠ m ∧ w.heap.size ≤ w0.heap.size by have := HSZ.out; omega)
  have HLE := Lib.hid True.intro
  have HPN := Lib.hid (show ps.length ≤ 6 by have := HL.out.2; rw [HPS.out, List.length_map] at this; exact this)
  replace x5 := below_cells hal _ _ x5
  obtain ⟨h2, hh2⟩ : ∃ q, q = (max 0 ht) % 400 := ⟨_, rfl⟩
  have h2b : 0 ≤ h2 ∧ h2 < 400 := by rw [hh2]; omega
  have HH := Lib.hid hh2.symm
  have HSZP := Lib.hid HH2.out.size
  clear hz hal hT hh2 HH2 HB2 HTO HIO HSZ HH1 HLE
  go_upto_region 4 with fail
  rw [HH.out]
  have HLN := Lib.hid (fun y (h : CsAt w0.heap.size y b m lc c tot) => clen_any h)
  have HTT := Lib.hid (fun y (h : CsAt w0.heap.size y b m lc c tot) => ctotal_any h)
  have HKS := Lib.hid HKP.out.set
  have t0 : w3.cell? ⟨T, 0, none⟩ = some (.int .u32 t.ver) := cell_at HKP.out.box
  have t1 : w3.cell? ⟨T, 1, none⟩ = some (.slice ai ps.length ci) := cell_at HKP.out.box
  have t2 : w3.cell? ⟨T, 2, none⟩ = some (.slice ao t.outs.length co) := cell_at HKP.out.box
  have t3 : w3.cell? ⟨T, 3, none⟩ = some (.int .u32 t.lock) := cell_at HKP.out.box
  have HHZ := Lib.hid (show ∀ p, (getP noCn p lc).1.script.size ≤ 9223372036854775807 from HSZP.out)
  obtain ⟨⟨z1, z2⟩, hz⟩ : ∃ z, z = feeE (fun p => getP noCn p lc) t h2 := ⟨_, rfl⟩
  have hf1 := kfee_any HKP.out.set HHZ.out _ t h2 (by omega) HKP.out.own.tx HL.out.1 (by have := HL.out.2; omega)
  rw [← hz] at hf1
  have HF1 := Lib.hid hf1
  have hzs := feeE_shape (fun p => getP noCn p lc) t h2
  have HZ := Lib.hid hz
  rw [← hz] at hzs
  have HZS := Lib.hid hzs
  clear hf1 hz hzs
  go_wp2_with (first | (go_at_call 14; refine (HLN.out _ HKS.out).mono ?_; rintro e w' ⟨rfl, rfl⟩) | (go_at_call 20; refine (HTT.out _ HKS.out).mono ?_; rintro e w' ⟨rfl, rfl⟩))
  refine HF1.out.mono ?_
  rintro e w4 ⟨v4, rfl, he4, hb⟩
  have HK4 := Lib.hid (HKP.out.below hb)
  have HKS4 := Lib.hid HK4.out.set
  clear hb HF1 t0 t1 t2 t3
  dsimp only at he4 ⊢
  rcases HZS.out with ⟨n, h⟩ | ⟨n, h, hn⟩ | ⟨a, n, h, hn⟩
  · obtain ⟨rfl, rfl⟩ : z1 = n ∧ z2 = .none := by cases h; exact ⟨rfl, rfl⟩
    obtain rfl : v4 = .nilIface := he4
    have HOK := Lib.hid (feeE_ok HZ.out.symm)
    have t1 : w4.cell? ⟨T, 1, none⟩ = some (.slice ai ps.length ci) := cell_at HK4.out.box
    clear HZS HZ h
    go_wp2_with (first | (go_at_call 14; refine (HLN.out _ HKS4.out).mono ?_; rintro e w' ⟨rfl, rfl⟩) | (go_at_call 20; refine (HTT.out _ HKS4.out).mono ?_; rintro e w' ⟨rfl, rfl⟩))
    obtain ⟨vals, hvals⟩ : ∃ q, q = valsG (fun p => getP noCn p lc) t.ins := ⟨_, rfl⟩
    have HVA := Lib.hid hvals
    have HSM := Lib.hid (show (sumA 0 vals).2 = 0 ∧ z1 = (sumA 0 vals).1 - (sumA 0 (t.outs.map (·.val))).1 ∧ (sumA 0 (t.outs.map (·.val))).1 ≤ (sumA 0 vals).1 by rw [hvals]; exact ⟨HOK.out.sum, HOK.out.fee, HOK.out.le⟩)
    have hgd := sumA_sum vals 0 HSM.out.1
    have HGD := Lib.hid (show (∀ a ∈ vals, goodA a = true) ∧ vals.sum = (sumA 0 vals).1 ∧ 0 ≤ vals.sum ∧ vals.sum ≤ 2100000000000000 from
      ⟨hgd.2, by rw [hgd.1]; omega, by have := (goodA_iff _).1 (sumA_goodK vals 0 (by decide) HSM.out.1); rw [hgd.1] at this; omega⟩)
    clear hvals hgd
    go_loopg [11, 61] ps.length (fun g s i wr => ∃ (k : Nat) (lc' : CL) (tot' : Int), g = ps.length - k ∧ k ≤ ps.length ∧ s = .int .i64 (vals.take k).sum ∧ i = .int .i64 k ∧
      KpI w w0.heap.size w1.heap.size b m lc' c tot' T (.agg #[.int .u32 t.ver, .slice ai ps.length ci, .slice ao t.outs.length co, .int .u32 t.lock]) #[.int .u32 t.ver, .slice ai ps.length ci, .slice ao t.outs.length co, .int .u32 t.lock] t (.slice ai ps.length ci) ps wr ∧
      ∀ (j : Nat) (x : PIn), k ≤ j → t.ins[j]? = some x → getP noCn (x.id, x.idx) lc' = getP noCn (x.id, x.idx) lc)
    case atStart => exact ⟨0, lc, tot, rfl, by omega, rfl, rfl, HK4.out, fun j x _ _ => rfl⟩
    case round =>
      rename World => wo
      obtain ⟨k, lc', tot', hgk, hk, rfl, rfl, hki, hgt⟩ := hrel
      have HGK := Lib.hid hgk
      have HKI := Lib.hid hki
      have HGT := Lib.hid hgt
      clear hgk hki hgt
      have hp6 : ps.length ≤ 6 := HPN.out
      by_cases hlt : k < ps.length
      · obtain ⟨⟨x, wv⟩, hp⟩ : ∃ p, ps[k]? = some p := ⟨_, List.getElem?_eq_getElem hlt⟩
        obtain ⟨bi, rfl, -, -, d0, d1, d2, d3⟩ := HKI.out.ins.at hp
        have hwr := HKI.out.ins.wit k _ hp
        dsimp only at d0 d1 d2 d3 hwr
        obtain ⟨wa, wc, rfl, -, -⟩ := ownsRow_shape hwr
        have hx : t.ins[k]? = some x := by rw [HPS.out, List.getElem?_map, hp]; rfl
        have HX := Lib.hid hx
        have hsp := spentR_ok (HOK.out.spent k x hx)
        have hge := HGT.out k x (Nat.le_refl _) hx
        obtain ⟨⟨cn, cb⟩, hcn⟩ : ∃ q, q = getP noCn (x.id, x.idx) lc := ⟨_, rfl⟩
        rw [← hcn] at hsp hge
        dsimp only at hsp
        obtain ⟨rfl, hopen, hripe⟩ := hsp
        have htk := takE_of (p := (x.id, x.idx)) (l := lc') (by rw [hge])
        rw [hge] at htk
        have HCNV := Lib.hid (show vals[k]? = some cn.val ∧ cn.script.size ≤ 9223372036854775807 by
          have h1 := HHZ.out (x.id, x.idx)
          rw [← hcn] at h1
          refine ⟨?_, h1⟩
          rw [HVA.out]
          unfold valsG
          rw [List.getElem?_map, hx]
          show some (getP noCn (x.id, x.idx) lc).1.val = _
          rw [← hcn])
        have HTK := Lib.hid htk
        have HOR := Lib.hid (And.intro hopen hripe)
        have HCT := Lib.hid (fun wy (h : CsAt w0.heap.size wy b m lc' c tot') => ctake_any h (x.id, x.idx))
        clear hwr hx hopen hripe htk hge hcn hp
        unfold ptV at HCT
        go_wp2_with fail
        have hal : Below wo.heap.size wo (wo.alloc (.cells #[.string x.id, .int .u32 x.idx, .int .u32 x.seq, .slice wa x.wit.length wc] 56)) := (Below.refl _ _).alloc (Nat.le_refl _) _
        have HKA := Lib.hid (HKI.out.below hal)
        refine (HCT.out _ HKA.out.set).mono ?_
        rintro e w5 ⟨rfl, hfr, hcs⟩
        rw [HTK.out]
        have HK5 := Lib.hid (HKA.out.turn HNE.out.2.2.2 HNE.out.1 ⟨HNE.out.2.1, HNE.out.2.2.1⟩ hfr hcs)
        clear hal hfr hcs HCT HTK HKA d0 d1 d2 d3
        unfold cnV
        dsimp only
        have HOP := Lib.hid (fun y h => open_any cn.script HCNV.out.2 (.agg #[.int .u32 t.ver, .slice (some ⟨bi, 0, none⟩) ps.length ci, .slice ao t.outs.length co, .int .u32 t.lock]) t k y h)
        have t0 : w5.cell? ⟨T, 0, none⟩ = some (.int .u32 t.ver) := cell_at HK5.out.box
        have t1 : w5.cell? ⟨T, 1, none⟩ = some (.slice (some ⟨bi, 0, none⟩) ps.length ci) := cell_at HK5.out.box
        have t2 : w5.cell? ⟨T, 2, none⟩ = some (.slice ao t.outs.length co) := cell_at HK5.out.box
        have t3 : w5.cell? ⟨T, 3, none⟩ = some (.int .u32 t.lock) := cell_at HK5.out.box
        go_upto_region 15 with fail
        have hz := heap_alloc_new w5 (.cells #[.int .i64 cn.val, .string cn.script, .int .i64 cn.height] 50)
        have hal : Below w5.heap.size w5 (w5.alloc (.cells #[.int .i64 cn.val, .string cn.script, .int .i64 cn.height] 50)) := (Below.refl _ _).alloc (Nat.le_refl _) _
        obtain ⟨D, hD⟩ : ∃ q, q = w5.heap.size := ⟨_, rfl⟩
        rw [← hD] at hz ⊢
        generalize w5.alloc (.cells #[.int .i64 cn.val, .string cn.script, .int .i64 cn.height] 50) = w6 at *
        have HK6 := Lib.hid (HK5.out.below hal)
        replace t0 := below_cells hal _ _ t0
        replace t1 := below_cells hal _ _ t1
        replace t2 := below_cells hal _ _ t2
        replace t3 := below_cells hal _ _ t3
        have c0 : w6.cell? ⟨D, 0, none⟩ = some (.int .i64 cn.val) := cell_at hz
        have c1 : w6.cell? ⟨D, 1, none⟩ = some (.string cn.script) := cell_at hz
        have c2 : w6.cell? ⟨D, 2, none⟩ = some (.int .i64 cn.height) := cell_at hz
        clear hz hal hD
        go_wp2_with fail
        refine (HOP.out w6 HK6.out.own.tx).mono ?_
        rintro e w7 ⟨rfl, hb⟩
        rw [HOR.out.1]
        have HK7 := Lib.hid (HK6.out.below hb)
        replace t0 := below_cells hb _ _ t0
        replace t1 := below_cells hb _ _ t1
        replace t2 := below_cells hb _ _ t2
        replace t3 := below_cells hb _ _ t3
        replace c0 := below_cells hb _ _ c0
        replace c2 := below_cells hb _ _ c2
        clear hb c1
        dsimp only
        go_wp2_with fail
        refine (ripe_any _ t k cn.height h2 w7 HK7.out.own.tx (by omega)).mono ?_
        rintro e w8 ⟨rfl, hb⟩
        rw [HOR.out.2]
        have HK8 := Lib.hid (HK7.out.below hb)
        replace c0 := below_cells hb _ _ c0
        clear hb c2 t0 t1 t2 t3
        dsimp only
        have hwrap : IntKind.i64.wrap ((vals.take k).sum + cn.val) = (vals.take (k + 1)).sum := by
          have e1 := sum_step HCNV.out.1
          have e2 := sum_pre vals (k + 1) HGD.out.1
          have e3 := HGD.out.2
          rw [IntKind.wrap_i64, e1]
          omega
        have HWP := Lib.hid hwrap
        go_wp2_with fail
        clear hwrap
        go_roundg (ps.length - (k + 1))
        case measure => have := HGK.out; omega
        case rel => exact ⟨k + 1, _, _, rfl, by omega, rfl, by go_num, HK8.out, fun j y hj hy => by
          have hnd := (checkOf_ok (formE_ok HOK.out.form).1).2.2.2.1
          have hne : ((x.id, x.idx) : Pt) ≠ (y.id, y.idx) := by
            have h1 : (ptsOf t)[k]? = some (x.id, x.idx) := by unfold ptsOf; rw [List.getElem?_map, HX.out]; rfl
            have h2 : (ptsOf t)[j]? = some (y.id, y.idx) := by unfold ptsOf; rw [List.getElem?_map, hy]; rfl
            obtain ⟨a1, a2⟩ := List.getElem?_eq_some_iff.1 h1
            obtain ⟨b1, b2⟩ := List.getElem?_eq_some_iff.1 h2
            have := List.pairwise_iff_getElem.1 hnd k j a1 b1 (by omega)
            rw [a2, b2] at this
            exact this
          rw [getP_take hne]
          exact HGT.out j y (by omega) hy⟩
      · obtain rfl : k = ps.length := by omega
        have t0 : wo.cell? ⟨T, 0, none⟩ = some (.int .u32 t.ver) := cell_at HKI.out.box
        have t1 : wo.cell? ⟨T, 1, none⟩ = some (.slice ai ps.length ci) := cell_at HKI.out.box
        have t2 : wo.cell? ⟨T, 2, none⟩ = some (.slice ao t.outs.length co) := cell_at HKI.out.box
        have t3 : wo.cell? ⟨T, 3, none⟩ = some (.int .u32 t.lock) := cell_at HKI.out.box
        have hvl : vals.length = ps.length := by rw [HVA.out]; unfold valsG; rw [List.length_map, HPS.out, List.length_map]
        rw [← hvl, List.take_length]
        have HVL := Lib.hid hvl
        clear hvl
        go_wp2_with fail
        refine (total_any _ t wo HKI.out.own.tx HL.out.1).mono ?_
        rintro e w5 ⟨rfl, hb⟩
        have HK5 := Lib.hid (HKI.out.below hb)
        have hck := checkOf_ok (formE_ok HOK.out.form).1
        have HZ2 := Lib.hid (show (sumA 0 (t.outs.map (·.val))).2 = 0 from hck.2.2.2.2)
        rw [HZ2.out]
        replace t0 := below_cells hb _ _ t0
        replace t1 := below_cells hb _ _ t1
        replace t2 := below_cells hb _ _ t2
        replace t3 := below_cells hb _ _ t3
        clear hb hck
        dsimp only
        go_wp2_with fail
        refine (kwakes_any w5 (HG.out.below HK5.out.bel)).mono ?_
        rintro e w6 ⟨rfl, hb⟩
        have HK6 := Lib.hid (HK5.out.below hb)
        replace t0 := below_cells hb _ _ t0
        replace t1 := below_cells hb _ _ t1
        replace t2 := below_cells hb _ _ t2
        replace t3 := below_cells hb _ _ t3
        clear hb
        have hz0 : 0 ≤ z1 := by have := HSM.out; omega
        have hws : IntKind.i64.wrap (vals.sum - (sumA 0 (t.outs.map (·.val))).1) = z1 := by
          have h1 := HSM.out
          have h2 := HGD.out.2
          have h3 := (goodA_iff _).1 (form_outs HOK.out.form)
          rw [IntKind.wrap_i64]
          omega
        dsimp only
        go_wp2_with fail
        refine (base_tx _ t w6 HK6.out.own.tx).mono ?_
        rintro e w7 ⟨rfl, hb⟩
        rw [(formE_ok HOK.out.form).2]
        have HB7 := Lib.hid (HK6.out.bel.trans (hb.mono HK6.out.bel.size))
        clear hb
        dsimp only
        go_wp2_with fail
        go_ret
        exact ⟨rfl, HB7.out⟩
  · obtain ⟨rfl, rfl⟩ : z1 = 0 ∧ z2 = .num n := by cases h; exact ⟨rfl, rfl⟩
    obtain rfl : v4 = .iface 42 (.int .i64 n) := he4
    have HW := Lib.hid (kwakes_any w4 (HG.out.below HK4.out.bel))
    go_wp2_with (first | (go_at_call 14; refine (HLN.out _ HKS4.out).mono ?_; rintro e w' ⟨rfl, rfl⟩) | (go_at_call 20; refine (HTT.out _ HKS4.out).mono ?_; rintro e w' ⟨rfl, rfl⟩))
    refine HW.out.mono ?_
    rintro e w5 ⟨rfl, hb⟩
    have HB5 := Lib.hid (HK4.out.bel.trans (hb.mono HK4.out.bel.size))
    clear hb
    dsimp only
    go_wp2_with fail
    go_ret
    exact ⟨rfl, HB5.out⟩
  · obtain ⟨rfl, rfl⟩ : z1 = 0 ∧ z2 = .fault a n := by cases h; exact ⟨rfl, rfl⟩
    obtain ⟨fb, rfl, hfa⟩ := he4
    clear hfa
    have HW := Lib.hid (kwakes_any w4 (HG.out.below HK4.out.bel))
    go_wp2_with (first | (go_at_call 14; refine (HLN.out _ HKS4.out).mono ?_; rintro e w' ⟨rfl, rfl⟩) | (go_at_call 20; refine (HTT.out _ HKS4.out).mono ?_; rintro e w' ⟨rfl, rfl⟩))
    refine HW.out.mono ?_
    rintro e w5 ⟨rfl, hb⟩
    have HB5 := Lib.hid (HK4.out.bel.trans (hb.mono HK4.out.bel.size))
    clear hb
    dsimp only
    go_wp2_with fail
    go_ret
    exact ⟨rfl, HB5.out⟩
end Go.Proofs.YtelindgnkpfkiaaGreatDoor
