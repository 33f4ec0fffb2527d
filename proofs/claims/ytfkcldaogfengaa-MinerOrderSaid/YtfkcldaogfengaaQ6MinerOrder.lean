/-
  MinerOrder, part 6: the texts M6, MinerOrderLaw, one after another. Conditions: none beyond those named at each.
-/
import Derived.Test.YtfkcldaogfengaaQ5MinerOrder
import Derived.Test.YtfkcldaogfengaaRows
import Derived.ProofKit
import Derived.OpenShut
import Derived.ShutString
import Derived.ChangeOld
import Derived.Below
section
/-
  MinerOrder: the walk. Conditions: none beyond the arguments' own.
-/
namespace Go.Proofs.Ytfkcldaogfengaa
open Go.RowKit Go.BigFrame
set_option linter.unusedVariables false
set_option linter.unusedSimpArgs false

theorem wf_u32z {n : Int} (h : (Lit.int .u32 n).wf = true) : 0 ≤ n ∧ n ≤ 4294967295 := by simpa [Lit.wf, IntKind.min, IntKind.max, IntKind.signed, IntKind.bits] using h
/-- A call by its contract, as one step of a region that draws. -/
theorem step_call_any {P : Program} {ops : Array Oper} {o : Oper} {a : Act} {w : World} {K : Act → World → Prop} {Q : Exit → Act → World → Prop} {E : Prop} {f : FuncId} {args : Array Value} {R : Ending → World → Prop} (hg : o.guard = none)
    (hrun : (execOp a.eval o).run P w = .ok (.enter f args) w) (hc : Calls P f args w R) (hR : ∀ e w', R e w' → ∃ v, e = .returned v ∧ K (a.put o.dst v) w') :
    if Region.wanted o (yielded ops a.tmps) = true then Oper.wp P o a w K Q else E := by
  have hw : Region.wanted o (yielded ops a.tmps) = true := by simp [Region.wanted, hg]
  rw [if_pos hw]
  unfold Oper.wp
  rw [hrun]
  refine hc.mono ?_
  intro e w' h
  obtain ⟨v, rfl, hk⟩ := hR e w' h
  exact hk
theorem ents_nil (w : World) : SlAt rpE w (.slice none 0 0) [] := ⟨none, 0, rfl, Nat.le_refl _, Nat.zero_le _, fun i x hi => by simp at hi⟩
theorem oE_ok {i : Nat} {f : Int} (hi : i < 12) (hf : 0 ≤ f ∧ f ≤ 4294967295) : (oE i f).Ok :=
  ⟨by show 2 < 4294967296; decide, by show i < 4294967296; omega, by show (idB _).size ≤ _; rw [idB_size]; decide, by show -9223372036854775808 ≤ f ∧ f ≤ 9223372036854775807; omega, by show -9223372036854775808 ≤ 69 + 49 * (f % 3) ∧ 69 + 49 * (f % 3) ≤ 9223372036854775807; omega⟩
set_option maxRecDepth 100000 in
set_option maxHeartbeats 8000000 in
theorem minerOrder_walk (v0 : Value) (fs : List Int) (thr : Int) (w : World) (h0 : SlAt (rpInt .u32) w v0 fs) (h1 : (Lit.int .u16 thr).wf = true) :
    Calls Try.prog 7 #[v0, .int .u16 thr] w (BIs true w) := by
  have HF := Lib.hid h0
  obtain ⟨a, c, rfl, hl1, hl2⟩ := h0.shape
  rw [maxLen_eq] at hl2
  obtain ⟨n, hn⟩ : ∃ n, n = fs.length := ⟨_, rfl⟩
  rw [← hn] at hl1 HF ⊢
  obtain ⟨mo, hmo⟩ : ∃ mo, mo = min n 12 := ⟨_, rfl⟩
  have hmin : min (n : Int) 12 = (mo : Int) := by omega
  have hmn : mo ≤ n := by omega
  have hm12 : mo ≤ 12 := by omega
  have b1 := u16_bd h1
  have ew1 : IntKind.i64.wrap thr = thr := by rw [IntKind.wrap_i64]; omega
  have HTR := Lib.hid (show -9223372036854775808 ≤ thr ∧ thr ≤ 9223372036854775807 by omega)
  have HFB := Lib.hid (show ∀ f ∈ fs, 0 ≤ f ∧ f ≤ 4294967295 from fun f hf => by
    obtain ⟨i, hi, rfl⟩ := List.getElem_of_mem hf
    obtain ⟨_, _, x, _, hx, hw, -⟩ := HF.out.int (i := i) (by omega)
    rw [List.getElem?_eq_getElem hi] at hx
    rw [Option.some.inj hx]
    exact wf_u32z hw)
  obtain ⟨B, hB⟩ : ∃ B, B = w.heap.size := ⟨_, rfl⟩
  have HBW := Lib.hid hB
  clear h0 h1 hn hmo b1 hB
  go_enter Try.func7, Try.ntmps7
  go_wp2_with fail
  go_loopg [5, 24] mo (fun g v i wr => ∃ (k : Nat) (ps : List EnV) (a' : Option Addr) (c' : Nat), g = mo - k ∧ k ≤ mo ∧ i = .int .i64 k ∧ v = .slice a' k c' ∧ ps.length = k ∧ ps.map (·.1) = oL fs k ∧ EnF B wr v ps ∧ Below w.heap.size w wr)
  case atStart => exact ⟨0, [], none, 0, by omega, by omega, rfl, rfl, rfl, rfl, EnF.nil _ _, Below.refl _ _⟩
  case round =>
    rename World => wo
    obtain ⟨k, ps, a', c', hgk, hk, rfl, rfl, hpl, hpe, hen, hb⟩ := hrel
    have HGK := Lib.hid hgk
    have HPL := Lib.hid hpl
    have HPE := Lib.hid hpe
    have HEN := Lib.hid hen
    have HB := Lib.hid hb
    clear hgk hpl hpe hen hb
    by_cases hlt : k < mo
    · obtain ⟨fb, fo, f, rfl, hf, hfw, d0⟩ := (HF.out.below HB.out).int (Nat.lt_of_lt_of_le hlt hmn)
      have hfb := wf_u32z hfw
      obtain ⟨fm, hfm⟩ : ∃ fm, fm = (f % 3).toNat := ⟨_, rfl⟩
      have hfm3 : fm < 3 := by omega
      have e1 : f.tmod 3 = (fm : Int) := by rw [Int.tmod_eq_emod_of_nonneg hfb.1]; omega
      have e2 : f % 3 = (fm : Int) := by omega
      have e3 : IntKind.u8.wrap (fm : Int) = (fm : Int) := by rw [IntKind.wrap_u8]; omega
      have e4 : IntKind.i64.wrap (fm : Int) = (fm : Int) := by rw [IntKind.wrap_i64]; omega
      have e5 : IntKind.i64.wrap (49 * (fm : Int)) = 49 * (fm : Int) := by rw [IntKind.wrap_i64]; omega
      have e6 : IntKind.i64.wrap (69 + 49 * (fm : Int)) = 69 + 49 * (fm : Int) := by rw [IntKind.wrap_i64]; omega
      have e7 : IntKind.i64.wrap f = f := by rw [IntKind.wrap_i64]; omega
      have e8 : IntKind.u8.wrap (k : Int) = (k : Int) := by rw [IntKind.wrap_u8]; omega
      have e9 : IntKind.i64.wrap (500 + (k : Int)) = 500 + (k : Int) := by rw [IntKind.wrap_i64]; omega
      have HSU := Lib.hid (oL_succ hf)
      have HFM := Lib.hid hfm
      have HOK := Lib.hid (oE_ok (i := k) (f := f) (by omega) hfb)
      have HZE := Lib.hid (show oZ k f = ⟨[128], 0, 0, 0, k, fm⟩ by unfold oZ; rw [hfm])
      have HEE := Lib.hid (show oE k f = ⟨makeT [] ⟨[128], 0, 0, 0, k, fm⟩, idB (500 + (k : Int)), f, 69 + 49 * (fm : Int)⟩ by unfold oE; rw [← HZE.out, e2])
      clear hf hfw hfb hfm
      go_wp2_with fail
      have hz := heap_alloc_new wo (.cells #[.int .u8 128] 5)
      have hal : Below wo.heap.size wo (wo.alloc (.cells #[.int .u8 128] 5)) := (Below.refl _ _).alloc (Nat.le_refl _) _
      obtain ⟨Z, hZ⟩ : ∃ q, q = wo.heap.size := ⟨_, rfl⟩
      rw [← hZ] at hz ⊢
      generalize wo.alloc (.cells #[.int .u8 128] 5) = w1 at *
      obtain ⟨T, hT⟩ : ∃ T, T = makeT [] ⟨[128], 0, 0, 0, k, fm⟩ := ⟨_, rfl⟩
      have hmk : Calls Try.prog 18 #[.slice none 0 0, .agg #[.slice (some ⟨Z, 0, none⟩) 1 1, .int .u8 0, .int .u8 0, .int .i64 0, .int .u8 (k : Int), .int .u8 (fm : Int)]] w1 (fun e w' => ∃ v, e = .returned v ∧ TxOwn w1.heap.size w' v T ∧ Below w1.heap.size w1 w') :=
        hT ▸ make14_any (.slice none 0 0) (.slice (some ⟨Z, 0, none⟩) 1 1) [] ⟨[128], 0, 0, 0, k, fm⟩ w1 (ents_nil _) (one_nat (n := 128) hz (by decide)) ⟨by simp, (by decide : 0 < 256), (by decide : 0 < 256), by show k < 256; omega, by show fm < 8; omega⟩ (by decide)
      have HE1 := Lib.hid (HEN.out.below hal)
      have HB1 := Lib.hid (HB.out.trans (hal.mono HB.out.size))
      have HEX := Lib.hid (show oE k f = ⟨T, idB (500 + (k : Int)), f, 69 + 49 * (fm : Int)⟩ by rw [HEE.out, hT])
      have HOX := Lib.hid (show PE.Ok ⟨T, idB (500 + (k : Int)), f, 69 + 49 * (fm : Int)⟩ from HEX.out ▸ HOK.out)
      have HMK := Lib.hid hmk
      clear hz hal hZ hT hmk HEN HB d0 HEE HOK
      refine HMK.out.mono ?_
      rintro e w2 ⟨v, rfl, hto, hb⟩
      have hob : ∀ b, (Value.slice a' k c').ownBlock = some b → b < w1.heap.size := fun b hb2 => (HE1.out.row.lt b (by rw [HPL.out] at *; exact hb2)).2
      obtain ⟨vi, vo, qs, e0, hqs, g1, g2, g3⟩ := id hto.1
      obtain ⟨ti, tc, e10, -, -⟩ := ownsRow_shape g1.row
      obtain ⟨ao, td, e11, -, -⟩ := ownsRow_shape g2.row
      obtain ⟨tn, htn⟩ : ∃ tn, tn = qs.length := ⟨_, rfl⟩
      obtain ⟨tm, htm⟩ : ∃ tm, tm = T.outs.length := ⟨_, rfl⟩
      rw [← htn] at e10
      rw [← htm] at e11
      subst e10
      subst e11
      subst e0
      have HTO := Lib.hid hto
      have HE2 := Lib.hid (HE1.out.below hb)
      have HB2 := Lib.hid (HB1.out.trans (hb.mono HB1.out.size))
      have HOB := Lib.hid hob
      clear hto hb hob hqs g1 g2 g3 htn htm HMK HE1 HB1
      go_upto_region 6 with fail
      have hz := heap_alloc_new w2 (.cells #[.int .u32 T.ver, .slice ti tn tc, .slice ao tm td, .int .u32 T.lock] 41)
      have hal : Below w2.heap.size w2 (w2.alloc (.cells #[.int .u32 T.ver, .slice ti tn tc, .slice ao tm td, .int .u32 T.lock] 41)) := (Below.refl _ _).alloc (Nat.le_refl _) _
      obtain ⟨X, hX⟩ : ∃ q, q = w2.heap.size := ⟨_, rfl⟩
      rw [← hX] at hz ⊢
      generalize w2.alloc (.cells #[.int .u32 T.ver, .slice ti tn tc, .slice ao tm td, .int .u32 T.lock] 41) = w3 at *
      have HTO3 := Lib.hid (show TxOwn w1.heap.size w3 _ T from HTO.out.below hal)
      have HE3 := Lib.hid (HE2.out.below hal)
      have HB3 := Lib.hid (HB2.out.trans (hal.mono HB2.out.size))
      have x0 : w3.cell? ⟨X, 0, none⟩ = some (.int .u32 T.ver) := cell_at hz
      have x1 : w3.cell? ⟨X, 1, none⟩ = some (.slice ti tn tc) := cell_at hz
      have x2 : w3.cell? ⟨X, 2, none⟩ = some (.slice ao tm td) := cell_at hz
      have x3 : w3.cell? ⟨X, 3, none⟩ = some (.int .u32 T.lock) := cell_at hz
      have HX := Lib.hid (stay (w := w3) (w1 := w3) hz (Below.refl _ _))
      clear hz hal hX HTO HE2 HB2
      go_region_law (first
        | (refine step_call_any rfl (f := 19) (args := #[.int .i64 (500 + (k : Int))]) (by kernel_rfl) (id_any (500 + (k : Int)) w3.drew) ?_; rintro e wc ⟨rfl, hb⟩; refine ⟨_, rfl, ?_⟩; have hb3 : Below w3.heap.size w3 wc := (show Below w3.heap.size w3 w3.drew from ⟨rfl, rfl, rfl, Nat.le_refl _, fun _ _ => rfl⟩).trans hb; have x0' := below_cells hb3 _ _ x0; have x1' := below_cells hb3 _ _ x1; have x2' := below_cells hb3 _ _ x2; have x3' := below_cells hb3 _ _ x3; obtain ⟨a8, c8, wd, hrun, hen8, hb8⟩ := EnF.app (x := ⟨T, idB (500 + (k : Int)), f, 69 + 49 * (fm : Int)⟩) (HE3.out.below hb3) (HTO3.out.below hb3) HOX.out rfl rfl HOB.out (by have := HPL.out; omega) (by have := HB3.out.size; have := hb3.size; have := HBW.out; omega); rw [HPL.out] at hrun hen8; have HR := Lib.hid hrun; have HE8 := Lib.hid hen8; have HB8 := Lib.hid ((HB3.out.trans (hb3.mono HB3.out.size)).trans (HBW.out ▸ hb8)); clear hrun hen8 hb8 hb3 hb)
        | (refine step_append_run rfl (.tmp 37) (.tmp 50) 24 24 rfl rfl rfl HR.out ?_))
      all_goals
        go_wp2_with fail
        go_roundg (mo - (k + 1))
        case measure => have := HGK.out; omega
        case rel => exact ⟨k + 1, ps ++ [(⟨T, idB (500 + (k : Int)), f, 69 + 49 * (fm : Int)⟩, .slice ti tn tc, .slice ao tm td)], a8, c8, rfl, by omega, by go_num, rfl, by rw [List.length_append, HPL.out]; rfl, by rw [List.map_append, HPE.out, HSU.out, HEX.out]; rfl, HE8.out, HB8.out⟩
    · obtain rfl : mo = k := by omega
      obtain ⟨l, hl⟩ : ∃ l, l = oL fs mo := ⟨_, rfl⟩
      have hsl := HEN.out.sl
      rw [HPE.out, ← hl] at hsl
      have hll : l.length = mo := by rw [hl, oL_len]
      have HLL := Lib.hid hll
      have HSL := Lib.hid (show SlAt rpE wo (.slice a' mo c') l from hsl)
      have HSZ := Lib.hid (show Sized l from hl ▸ oL_sized hm12 HFB.out)
      have HFW := Lib.hid (show Few l from hl ▸ oL_few fs mo)
      have HNE := Lib.hid (show ∀ i k, edge l i k = false from hl ▸ oL_lone hm12)
      have HLK := Lib.hid (fun p (hp : p < mo) => show (txI l p).lock = p by rw [hl]; exact oL_lock hp)
      have HT1 := Lib.hid (template_any _ l thr 1000000 wo hsl HSZ.out HFW.out HTR.out (by decide))
      have HPR := Lib.hid (order_pair thr HSZ.out HNE.out)
      have HTL := Lib.hid (show (tmplL l thr 1000000).length = hiN l thr mo by rw [order_len HSZ.out HNE.out, hll]; rfl)
      have HPT := Lib.hid (tmplL_lt l thr 1000000)
      clear hsl hl hll HEN HPE HPL HGK hlt hk
      generalize tmplL l thr 1000000 = qs at *
      go_wp2_with fail
      refine HT1.out.mono ?_
      rintro e w2 ⟨v, rfl, hg, hb⟩
      obtain ⟨ga, gc, rfl, -, -⟩ := hg.shape
      obtain ⟨pn, hpn⟩ : ∃ pn, pn = qs.length := ⟨_, rfl⟩
      have hmp : (qs.map (txI l)).length = pn := by rw [List.length_map, hpn]
      rw [hmp] at hg ⊢
      have HPN := Lib.hid hpn
      have hpn12 : pn ≤ 12 := by have := hiN_le l thr mo; have := HTL.out; omega
      have HG := Lib.hid hg
      have HS2 := Lib.hid (HSL.out.below hb)
      have HB2 := Lib.hid (HB.out.trans (hb.mono HB.out.size))
      clear hg hb hmp hpn HT1 HSL HB
      go_wp2_with fail
      go_loopg [10, 59] pn (fun g v i wr => ∃ k : Nat, g = pn - k ∧ k ≤ pn ∧ i = .int .i64 k ∧ v = .int .i64 (lastP qs k) ∧ Below w2.heap.size w2 wr)
      case atStart => exact ⟨0, by omega, by omega, rfl, rfl, Below.refl _ _⟩
      case round =>
        rename World => wr
        obtain ⟨k, hgk, hk, rfl, rfl, hb⟩ := hrel
        have HGK := Lib.hid hgk
        have HBR := Lib.hid hb
        clear hgk hb
        by_cases hlt : k < pn
        · obtain ⟨gb, go_, tg, i1, n1, c1, i2, n2, c2, rfl, htg, -, g0, g1, g2, g3⟩ := (HG.out.below HBR.out).txs hlt
          rw [List.getElem?_map] at htg
          obtain ⟨p, hp, rfl⟩ := Option.map_eq_some_iff.1 htg
          have hpm : p < mo := by have := HPT.out p (List.mem_of_getElem? hp); have := HLL.out; omega
          rw [HLK.out p hpm] at g3
          generalize (txI l p).ver = tv at *
          have HP := Lib.hid hp
          have HLP := Lib.hid (lastP_succ hp)
          have ewp : IntKind.i64.wrap (p : Int) = (p : Int) := by rw [IntKind.wrap_i64]; omega
          have hp0 : ¬ ((p : Int) < 0) := by omega
          have hpl : ¬ ((mo : Int) ≤ (p : Int)) := by omega
          clear htg hp
          cases k with
          | zero =>
            rw [show lastP qs 0 = -1 from rfl]
            rw [show go_ + 0 * 4 = go_ by omega] at g0
            rw [show go_ + 0 * 4 + 1 = go_ + 1 by omega] at g1
            rw [show go_ + 0 * 4 + 2 = go_ + 2 by omega] at g2
            rw [show go_ + 0 * 4 + 3 = go_ + 3 by omega] at g3
            go_wp2_with fail
            go_roundg (pn - 1)
            case measure => have := HGK.out; omega
            case rel => exact ⟨1, rfl, by omega, rfl, by rw [HLP.out], HBR.out.trans (((Below.refl _ _).alloc (Nat.le_refl _) _).mono HBR.out.size)⟩
          | succ q =>
            obtain ⟨p', hp'⟩ : ∃ p', qs[q]? = some p' := ⟨_, List.getElem?_eq_getElem (by have := HPN.out; omega)⟩
            rw [lastP_succ hp']
            have hpm' : p' < mo := by have := HPT.out p' (List.mem_of_getElem? hp'); have := HLL.out; omega
            obtain ⟨eb, eo, y, j1, m1, e1, j2, m2, e2, hla, hy, -, -, -, -, -, -, -, y5, y6⟩ := (HS2.out.below HBR.out).ent hpm
            subst hla
            obtain ⟨fb2, fo2, x, k1, o1, f1, k2, o2, f2, hla, hx, -, -, -, -, -, -, -, x5, x6⟩ := (HS2.out.below HBR.out).ent hpm'
            obtain ⟨rfl, rfl⟩ : eb = fb2 ∧ eo = fo2 := by simpa using hla
            obtain ⟨hc1, hc2⟩ := ahead_cmp HSZ.out hx hy (ahead_next HPR.out hp' HP.out)
            obtain ⟨cc, hcc⟩ : ∃ cc, cc = cmpR x.fee x.size y.fee y.size := ⟨_, rfl⟩
            rw [← hcc] at hc1 hc2
            have HCC := Lib.hid (fun (wy : World) => show Calls Try.prog 20 #[.int .i64 x.fee, .int .i64 x.size, .int .i64 y.fee, .int .i64 y.size] wy (fun e w' => e = .returned (.int .i64 cc) ∧ Below wy.heap.size wy w') from
              (hcc ▸ rcompare_any x.fee x.size y.fee y.size wy).mono fun e w' ⟨h1, h2⟩ => ⟨h1, h2 ▸ Below.refl _ _⟩)
            have HC2 := Lib.hid hc2
            have hl0 : (0 : Int) ≤ (p' : Int) := by omega
            clear hcc hla hx hy hp' hc2
            go_upto_region 18 with fail
            have hz := heap_alloc_new wr (.cells #[.int .u32 tv, .slice i1 n1 c1, .slice i2 n2 c2, .int .u32 p] 41)
            have hal : Below wr.heap.size wr (wr.alloc (.cells #[.int .u32 tv, .slice i1 n1 c1, .slice i2 n2 c2, .int .u32 p] 41)) := (Below.refl _ _).alloc (Nat.le_refl _) _
            obtain ⟨X, hX⟩ : ∃ q, q = wr.heap.size := ⟨_, rfl⟩
            rw [← hX] at hz ⊢
            generalize wr.alloc (.cells #[.int .u32 tv, .slice i1 n1 c1, .slice i2 n2 c2, .int .u32 p] 41) = w3 at *
            replace x5 := below_cells hal _ _ x5
            replace x6 := below_cells hal _ _ x6
            replace y5 := below_cells hal _ _ y5
            replace y6 := below_cells hal _ _ y6
            have HB3 := Lib.hid (HBR.out.trans (hal.mono HBR.out.size))
            clear hz hal hX g0 g1 g2 g3
            obtain ⟨C, hC⟩ : ∃ C : World → Prop, C = fun w' => Below w3.heap.size w3 w' := ⟨_, rfl⟩
            have kx5 := kin_cell hC x5
            have kx6 := kin_cell hC x6
            have ky5 := kin_cell hC y5
            have ky6 := kin_cell hC y6
            have QC := Lib.hid (kin_call hC fun y h => HCC.out y)
            have HC := Lib.hid hC
            clear hC
            refine wp_region_kin C (by kernel_rfl) (by kernel_rfl) (by rw [HC.out]; exact ⟨rfl, rfl, rfl, Nat.le_refl _, fun _ _ => rfl⟩) ?_
            intro hne
            repeat (first | (go_big_quiet_step ((rename_i y; go_at_call 20; exact Calls.kin (QC.out y) (fun w' h => h)))) | (quiet_step ((rename_i y; go_at_call 20; exact Calls.kin (QC.out y) (fun w' h => h)))))
            refine wpQuiet_nil ?_
            intro _ hw'
            obtain ⟨kx, hw''⟩ := hw'
            subst hw''
            obtain ⟨w4, hxc⟩ := kx
            rw [HC.out] at hxc
            clear HC hne kx5 kx6 ky5 ky6
            have HB4 := Lib.hid (HB3.out.trans (hxc.mono HB3.out.size))
            clear hxc HB3 x5 x6 y5 y6 HCC
            by_cases hc0 : cc = 0
            · have hlp := HC2.out hc0
              subst hc0
              go_wp2_with fail
              go_roundg (pn - (q + 1 + 1))
              case measure => have := HGK.out; omega
              case rel => exact ⟨q + 1 + 1, rfl, by omega, by go_num, by rw [HLP.out], HB4.out⟩
            · go_wp2_with fail
              go_roundg (pn - (q + 1 + 1))
              case measure => have := HGK.out; omega
              case rel => exact ⟨q + 1 + 1, rfl, by omega, by go_num, by rw [HLP.out], HB4.out⟩
        · obtain rfl : pn = k := by omega
          clear hlt hk HGK
          obtain ⟨wz, hwz⟩ : ∃ wz, wz = wr := ⟨_, rfl⟩
          have HZ := Lib.hid (show Below wz.heap.size wz wr from hwz ▸ Below.refl _ _)
          have HSz := Lib.hid (show SlAt rpE wz _ l from hwz ▸ HS2.out.below HBR.out)
          have HBz := Lib.hid (show Below w.heap.size w wz from hwz ▸ HB2.out.trans (HBR.out.mono HB2.out.size))
          clear hwz HBR HB2 HS2 HG
          go_wp2_with fail
          go_loopg [11, 112] mo (fun g v i wr => ∃ k : Nat, g = mo - k ∧ k ≤ mo ∧ i = .int .i64 k ∧ v = .int .i64 (hiN l thr k : Int) ∧ Below wz.heap.size wz wr)
          case atStart => exact ⟨0, by omega, by omega, rfl, rfl, HZ.out⟩
          case round =>
            clear HZ
            rename World => wq
            obtain ⟨k, hgk, hk, rfl, rfl, hb⟩ := hrel
            have HGK := Lib.hid hgk
            have HZ := Lib.hid hb
            have hhl := hiN_le l thr k
            obtain ⟨hh, hhh⟩ : ∃ hh, hh = hiN l thr k := ⟨_, rfl⟩
            rw [← hhh] at hhl ⊢
            have HHH := Lib.hid hhh
            clear hgk hb hhh
            by_cases hlt : k < mo
            · obtain ⟨eb, eo, y, j1, m1, e1, j2, m2, e2, rfl, hy, -, -, y0, y1, y2, y3, y4, y5, y6⟩ := (HSz.out.below HZ.out).ent hlt
              obtain ⟨lb, hlb⟩ : ∃ lb, lb = lowB y.fee y.size thr := ⟨_, rfl⟩
              have HNX := Lib.hid (show hiN l thr (k + 1) = hh + if lb = true then 0 else 1 by rw [hiN_succ hy, ← HHH.out, hlb])
              have HBL := Lib.hid (fun wy => hlb ▸ below21_any y.fee y.size thr wy)
              clear hy hlb
              go_upto_region 26 with fail
              have hz := heap_alloc_new wq (.cells #[.int .u32 y.tx.ver, .slice j1 m1 e1, .slice j2 m2 e2, .int .u32 y.tx.lock, .string y.id, .int .i64 y.fee, .int .i64 y.size] 43)
              have hal : Below wq.heap.size wq (wq.alloc (.cells #[.int .u32 y.tx.ver, .slice j1 m1 e1, .slice j2 m2 e2, .int .u32 y.tx.lock, .string y.id, .int .i64 y.fee, .int .i64 y.size] 43)) := (Below.refl _ _).alloc (Nat.le_refl _) _
              obtain ⟨Y, hY⟩ : ∃ q, q = wq.heap.size := ⟨_, rfl⟩
              rw [← hY] at hz ⊢
              generalize wq.alloc (.cells #[.int .u32 y.tx.ver, .slice j1 m1 e1, .slice j2 m2 e2, .int .u32 y.tx.lock, .string y.id, .int .i64 y.fee, .int .i64 y.size] 43) = w5 at *
              have z5 : w5.cell? ⟨Y, 5, none⟩ = some (.int .i64 y.fee) := cell_at hz
              have z6 : w5.cell? ⟨Y, 6, none⟩ = some (.int .i64 y.size) := cell_at hz
              have HZ5 := Lib.hid (HZ.out.trans (hal.mono HZ.out.size))
              clear hz hal hY y0 y1 y2 y3 y4 y5 y6
              go_wp2_with fail
              refine (HBL.out w5).mono ?_
              rintro e w6 ⟨rfl, rfl⟩
              clear z5 z6 HBL
              cases lb
              · go_wp2_with fail
                go_roundg (mo - (k + 1))
                case measure => have := HGK.out; omega
                case rel => exact ⟨k + 1, rfl, by omega, by go_num, by rw [HNX.out]; rfl, HZ5.out⟩
              · go_wp2_with fail
                go_roundg (mo - (k + 1))
                case measure => have := HGK.out; omega
                case rel => exact ⟨k + 1, rfl, by omega, by go_num, by rw [HNX.out]; rfl, HZ5.out⟩
            · obtain rfl : mo = k := by omega
              have hpe : hh = pn := by rw [HHH.out, HPN.out, HTL.out]
              subst hpe
              go_wp2_with fail
              refine (wakes21_any wq).mono ?_
              rintro e w6 ⟨rfl, hb⟩
              have HB6 := Lib.hid (HBz.out.trans ((HZ.out.trans (hb.mono HZ.out.size)).mono HBz.out.size))
              clear hb
              go_wp2_with fail
              go_ret
              exact ⟨rfl, HB6.out⟩
end Go.Proofs.Ytfkcldaogfengaa
end

section
/-
  MinerOrder returns true for every input, and each argument reads behind the call as before. Conditions: none beyond the statement's own.
-/
namespace Go.Proofs.Ytfkcldaogfengaa.minerOrderDone
open Go.ChangeShapes Go.WideShapes Go.ChangeAt Go.RowKit
open Go.ChangeMaps (open_string shut_string)
set_option linter.unusedVariables false

theorem own : ownKnob Try.prog.godebug = none := by kernel_rfl
theorem laidOut : laidOutB Try.prog = true := by kernel_rfl

set_option maxRecDepth 100000 in
theorem lifted (os : Os) (started : os.Started) (H : Type) (enc : TypeId × Value → H) :
    ReturnsInHanded {} Try.checked os 7 .any (Rows.minerOrderSpec.pre6 enc Try.prog Try.f7 Rows.minerOrderRow.domain false) (Rows.minerOrderSpec.post enc Try.prog Try.f7 false true false false) := by
  refine returnsInHanded_of_change (C := Try.checked) own started (by kernel_rfl) Try.func7
    (ChangeSpec.witness6 (enc := enc) (C := Try.checked) false ⟨#[], #[.slice none 0 0, .int .u16 0], []⟩ 8 (by kernel_rfl) (by kernel_rfl) (by kernel_rfl) (by kernel_rfl)) ?_
  intro W base args ds gs before hval0 hW hcnd _
  have hval : ∀ (j : Nat) t v, Try.f7.params[j]? = some t → args[j]? = some v → Value.okWide Try.prog W .any base t v := hval0
  have hW' := hW
  obtain ⟨p, q, hA0, hV, rfl, hfz, hnd⟩ := hW
  have hA : DataW.TrodAll enc Try.prog W 0 (fun _ => true) true Try.f7.params.toList args.toList ds p := hA0
  rw [Try.params7] at hA hval
  obtain ⟨v0, vs0, d0, ds0, p0, q0, hargs, rfl, rfl, h0, r0⟩ := trodAll_cons hA
  obtain ⟨v1, vs1, d1, ds1, p1, q1, rfl, rfl, rfl, h1, r1⟩ := trodAll_cons r0
  obtain ⟨rfl, rfl, rfl⟩ := trodAll_nil r1
  obtain rfl : args = #[v0, v1] := by cases args; simp_all
  obtain ⟨rfl, rfl⟩ := trodVars_none hV
  have k0 := h0
  have lt0 : ∀ x ∈ p0, x.block < W.heap.size := by obtain ⟨m, hm⟩ := k0; exact DataW.trod_lt m _ _ _ hm
  obtain ⟨a0, w0⟩ := open_u32s (hval 0 50 v0 rfl rfl) h0
  have k1 := h1
  have lt1 : ∀ x ∈ p1, x.block < W.heap.size := by obtain ⟨m, hm⟩ := k1; exact DataW.trod_lt m _ _ _ hm
  obtain ⟨a1, rfl, rfl, rfl, w1⟩ := open_int Try.underlying45 (hval 1 45 v1 rfl rfl) h1
  clear hA0 hval0
  refine (minerOrder_walk v0 a0 a1 W w0 w1).mono fun e W' ⟨he, bel⟩ => ?_
  subst he
  exact ⟨_, rfl, _, _, _, [], _, [], hW', trodAll_mk1 (shut_bool Try.underlying4 _), (trodAll_cons_mk (Below.trod laidOut (by kernel_rfl) (of_decide_eq_true (by kernel_rfl)) k0 bel lt0) (trodAll_cons_mk (Below.trod laidOut (by kernel_rfl) (of_decide_eq_true (by kernel_rfl)) k1 bel lt1) trodAll_mk0)), rfl, bel.frame _, fun h => by cases h⟩

theorem proved : Rows.MinerOrderSaid :=
  OpenClaim.holds_of_wide 7 Try.f7 rfl rfl rfl rfl rfl rfl rfl ⟨rfl, rfl, rfl, rfl, rfl⟩ rfl rfl rfl rfl rfl (by kernel_rfl) Try.func7 (by kernel_rfl)
    (of_decide_eq_true (by kernel_rfl)) (by unfold Func.isWrapper; first | (rw [if_pos (by decide +kernel)]; kernel_rfl) | (rw [if_neg (by decide +kernel)]; exact ⟨rfl, rfl⟩))
    (fun os started H enc _ => lifted os started H enc)

#print axioms proved
end Go.Proofs.Ytfkcldaogfengaa.minerOrderDone
end
