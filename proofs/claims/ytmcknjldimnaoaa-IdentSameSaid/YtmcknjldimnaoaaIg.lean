/-
  IdentSame: the walk. Conditions: none.
-/
import Derived.Test.YtmcknjldimnaoaaIf
import Derived.Test.YtmcknjldimnaoaaTxTwo
import Derived.Test.YtmcknjldimnaoaaRegw
namespace Go.Proofs.Ytmcknjldimnaoaa
open Go.RowKit Go.BigFrame
set_option linter.unusedVariables false
set_option linter.unusedSimpArgs false

set_option maxRecDepth 100000 in
set_option maxHeartbeats 4000000 in
theorem identSame_walk (v : Value) (t0 : PTx) (lv : Value) (ls : List ByteArray) (w : World) (hv : TxAt w v t0) (hl : SlAt rpStr w lv ls) : Calls Try.prog 5 #[v, lv] w (BIs true w) := by
  have hv' := hv
  obtain ⟨va, vo, rfl, hia, hob, -, -⟩ := hv
  obtain ⟨a, c, rfl, -, -⟩ := hia.shape
  obtain ⟨a', c', rfl, -, -⟩ := hob.shape
  obtain ⟨l1, hl1⟩ : ∃ n, n = t0.ins.length := ⟨_, rfl⟩
  obtain ⟨l2, hl2⟩ : ∃ n, n = t0.outs.length := ⟨_, rfl⟩
  rw [← hl1, ← hl2] at hv' ⊢
  obtain ⟨al, cl, rfl, hcl1, hcl2⟩ := hl.shape
  obtain ⟨nl, hnl⟩ : ∃ n, n = ls.length := ⟨_, rfl⟩
  rw [← hnl] at hl hcl1 ⊢
  rw [maxLen_eq] at hcl2
  have HL := Lib.hid hl
  have HNL := Lib.hid hnl
  have HV := Lib.hid hv'
  clear hia hob hl1 hl2 hv' hl hnl
  go_enter Try.func5, Try.ntmps5
  go_upto_region 1 with fail
  have hz := heap_alloc_new w (.cells #[.int .u32 t0.ver, .slice a l1 c, .slice a' l2 c', .int .u32 t0.lock] 26)
  have hal : Below w.heap.size w (w.alloc (.cells #[.int .u32 t0.ver, .slice a l1 c, .slice a' l2 c', .int .u32 t0.lock] 26)) := (Below.refl _ _).alloc (Nat.le_refl _) _
  obtain ⟨X, hX⟩ : ∃ q, q = w.heap.size := ⟨_, rfl⟩
  rw [← hX] at hz ⊢
  generalize w.alloc (.cells #[.int .u32 t0.ver, .slice a l1 c, .slice a' l2 c', .int .u32 t0.lock] 26) = w0 at *
  have p0 : w0.cell? ⟨X, 0, none⟩ = some (.int .u32 t0.ver) := cell_at hz
  have p1 : w0.cell? ⟨X, 1, none⟩ = some (.slice a l1 c) := cell_at hz
  have p2 : w0.cell? ⟨X, 2, none⟩ = some (.slice a' l2 c') := cell_at hz
  have p3 : w0.cell? ⟨X, 3, none⟩ = some (.int .u32 t0.lock) := cell_at hz
  have HB0 := Lib.hid hal
  have HV0 := Lib.hid (HV.out.below hal)
  clear hz hal hX HV
  go_wp2_with fail
  refine (fit_any _ t0 w0 HV0.out).mono ?_
  rintro en w1 ⟨vu, u, rfl, hown, hfit, hb⟩
  obtain ⟨⟨vi1, vo1, ps1, rfl, hp1, hi1, ho1, -⟩, -, -⟩ := id hown
  obtain ⟨ai, ci, e1, -, -⟩ := ownsRow_shape hi1.row
  obtain ⟨ao, co, e2, -, -⟩ := ownsRow_shape ho1.row
  obtain ⟨n1, hn1⟩ : ∃ n, n = ps1.length := ⟨_, rfl⟩
  obtain ⟨m1, hm1⟩ : ∃ n, n = u.outs.length := ⟨_, rfl⟩
  rw [← hn1] at e1
  rw [← hm1] at e2
  subst e1
  subst e2
  have HN1 := Lib.hid (show n1 = u.ins.length ∧ m1 = u.outs.length by rw [hp1, List.length_map]; exact ⟨hn1, hm1⟩)
  have HB1 := Lib.hid (HB0.out.trans (hb.mono HB0.out.size))
  have HOU := Lib.hid (show TxOwn w0.heap.size w1 (.agg #[.int .u32 u.ver, .slice ai n1 ci, .slice ao m1 co, .int .u32 u.lock]) u from hown)
  have HF := Lib.hid hfit
  have HS01 := Lib.hid (show w.heap.size ≤ w0.heap.size ∧ w0.heap.size ≤ w1.heap.size from ⟨HB0.out.size, hb.size⟩)
  clear hown hfit hi1 ho1 hp1 hn1 hm1 hb p0 p1 p2 p3 HV0 HB0
  go_upto_region 2 with fail
  have hz := heap_alloc_new w1 (.cells #[.int .u32 u.ver, .slice ai n1 ci, .slice ao m1 co, .int .u32 u.lock] 26)
  have hal : Below w1.heap.size w1 (w1.alloc (.cells #[.int .u32 u.ver, .slice ai n1 ci, .slice ao m1 co, .int .u32 u.lock] 26)) := (Below.refl _ _).alloc (Nat.le_refl _) _
  obtain ⟨A5, hA5⟩ : ∃ q, q = w1.heap.size := ⟨_, rfl⟩
  rw [← hA5] at hz ⊢
  generalize w1.alloc (.cells #[.int .u32 u.ver, .slice ai n1 ci, .slice ao m1 co, .int .u32 u.lock] 26) = w2 at *
  have u0 : w2.cell? ⟨A5, 0, none⟩ = some (.int .u32 u.ver) := cell_at hz
  have u1 : w2.cell? ⟨A5, 1, none⟩ = some (.slice ai n1 ci) := cell_at hz
  have u2 : w2.cell? ⟨A5, 2, none⟩ = some (.slice ao m1 co) := cell_at hz
  have u3 : w2.cell? ⟨A5, 3, none⟩ = some (.int .u32 u.lock) := cell_at hz
  have HB := Lib.hid (HB1.out.trans (hal.mono HB1.out.size))
  have HU := Lib.hid (HOU.out.tx.below hal)
  have H1 := Lib.hid hal
  have HA5 := Lib.hid hA5
  have HLT := Lib.hid (show A5 < w2.heap.size from (Array.getElem?_eq_some_iff.1 hz).1)
  clear hz hal hA5 HB1
  have HFL := Lib.hid (fitted_len HF.out)
  by_cases h0 : checkOf u = 0
  rotate_left
  · have HCK := Lib.hid (iid_any _ u w2 HU.out HFL.out)
    rw [show idE u false = bL [] from if_neg h0] at HCK
    generalize checkOf u = ck at *
    have hne : (ck != 0) = true := by simpa using h0
    have hne2 : (ck == 0) = false := by simpa using h0
    go_wp2_with fail
    refine HCK.out.mono ?_
    rintro en w4 ⟨rfl, hb⟩
    have HB := Lib.hid (HB.out.trans (hb.mono HB.out.size))
    clear hb
    go_wp2_with fail
    refine (wakes7_any w4).mono ?_
    rintro en w5 ⟨rfl, hb⟩
    have HB := Lib.hid (HB.out.trans (hb.mono HB.out.size))
    clear hb
    go_wp2_with fail
    go_ret
    exact ⟨rfl, HB.out⟩
  have HC0 := Lib.hid h0
  have HW := Lib.hid (whole_of h0)
  have HCK := Lib.hid (iid_any _ u w2 HU.out HFL.out)
  obtain ⟨sid, hsid⟩ : ∃ s, s = tw (encL u false) := ⟨_, rfl⟩
  rw [show idE u false = tw (encL u false) from if_pos h0, h0, ← hsid] at HCK
  have HSID := Lib.hid hsid
  clear h0 hsid
  go_wp2_with fail
  refine HCK.out.mono ?_
  rintro en w5 ⟨rfl, hb⟩
  replace u0 := below_cells hb _ _ u0
  replace u1 := below_cells hb _ _ u1
  replace u2 := below_cells hb _ _ u2
  replace u3 := below_cells hb _ _ u3
  have HB := Lib.hid (HB.out.trans (hb.mono HB.out.size))
  have HU := Lib.hid (HU.out.below hb)
  have H1 := Lib.hid (H1.out.trans (hb.mono H1.out.size))
  have HLT := Lib.hid (Nat.lt_of_lt_of_le HLT.out hb.size)
  clear hb HCK
  have HFI := Lib.hid (show u.ins.length ≤ 1000 ∧ u.outs.length ≤ 1000 ∧ ∀ x ∈ u.ins, x.wit.length ≤ 1000 from ⟨by have := HF.out.few.1; omega, by have := HF.out.few.2; omega, fun x hx => by have := (HF.out.ins x hx).len; omega⟩)
  go_wp2_with fail
  refine (copy_any _ u w5 HU.out HFI.out.1 HFI.out.2.1 HFI.out.2.2).mono ?_
  rintro en w6 ⟨vv, rfl, hown, hb⟩
  obtain ⟨⟨vi2, vo2, ps2, rfl, hp2, hi2, ho2, -⟩, -, -⟩ := id hown
  obtain ⟨aj, cj, e1, -, hcj⟩ := ownsRow_shape hi2.row
  obtain ⟨aq, cq, e2, -, hcq⟩ := ownsRow_shape ho2.row
  rw [maxLen_eq] at hcj hcq
  have hl2 : ps2.length = n1 := by rw [HN1.out.1, hp2, List.length_map]
  rw [hl2] at e1
  rw [← HN1.out.2] at e2
  subst e1
  subst e2
  have HLT5 := HLT
  replace u0 := below_cells hb _ _ u0
  replace u1 := below_cells hb _ _ u1
  replace u2 := below_cells hb _ _ u2
  replace u3 := below_cells hb _ _ u3
  have HB := Lib.hid (HB.out.trans (hb.mono HB.out.size))
  have H1 := Lib.hid (H1.out.trans (hb.mono H1.out.size))
  have HOV := Lib.hid (show TxOwn w5.heap.size w6 (.agg #[.int .u32 u.ver, .slice aj n1 cj, .slice aq m1 cq, .int .u32 u.lock]) u from hown)
  have H56 := Lib.hid hb
  clear hown hi2 ho2 hp2 hl2 hb hcj hcq HU
  have HN5 := Lib.hid (And.intro (And.intro HS01.out.1 HS01.out.2) (And.intro H1.out.size (And.intro HB.out.size H56.out.size)))
  go_upto_region 6 with fail
  have hz := heap_alloc_new w6 (.cells #[.int .u32 u.ver, .slice aj n1 cj, .slice aq m1 cq, .int .u32 u.lock] 26)
  have hal : Below w6.heap.size w6 (w6.alloc (.cells #[.int .u32 u.ver, .slice aj n1 cj, .slice aq m1 cq, .int .u32 u.lock] 26)) := (Below.refl _ _).alloc (Nat.le_refl _) _
  obtain ⟨A8, hA8⟩ : ∃ q, q = w6.heap.size := ⟨_, rfl⟩
  rw [← hA8] at hz ⊢
  generalize w6.alloc (.cells #[.int .u32 u.ver, .slice aj n1 cj, .slice aq m1 cq, .int .u32 u.lock] 26) = w7 at *
  have e1 : w7.cell? ⟨A8, 1, none⟩ = some (.slice aj n1 cj) := cell_at hz
  have hvs : VS w5.heap.size w6.heap.size (.slice aj n1 cj) (.slice aq m1 cq) u w7 (doneW (cutW ls) 0 u.ins) w7 := by
    rw [doneW_zero]
    exact VS.later HOV.out (fun b _ hb => hal.block b hb) hal.size
  have hb := hal
  replace u0 := below_cells hb _ _ u0
  replace u1 := below_cells hb _ _ u1
  replace u2 := below_cells hb _ _ u2
  replace u3 := below_cells hb _ _ u3
  have HB := Lib.hid (HB.out.trans (hb.mono HB.out.size))
  have H1 := Lib.hid (H1.out.trans (hb.mono H1.out.size))
  have HZ := Lib.hid hz
  rw [← hA8] at hvs
  have HVS := Lib.hid hvs
  obtain ⟨B8, hB8⟩ : ∃ b, b = w5.heap.size := ⟨_, rfl⟩
  rw [← hB8] at HVS
  have HNM := Lib.hid (show A5 < B8 ∧ B8 ≤ A8 ∧ w1.heap.size ≤ B8 ∧ w.heap.size ≤ B8 ∧ A5 = w1.heap.size by
    have := HN5.out; have := HLT5.out; have := HA5.out; have := H56.out.size; omega)
  have HOW := Lib.hid HS01.out.1
  clear hvs hz hb hal hA8 hB8 HN5 HLT HLT5 HOV H56 HS01
  have hn8 : n1 ≤ 8 := by have := HN1.out.1; have := HF.out.few.1; omega
  go_wp2_with fail
  go_loopg [39] n1 (fun g vi wr => ∃ k : Nat, g = n1 - k ∧ k ≤ n1 ∧ vi = .int .i64 k ∧ VS B8 A8 (.slice aj n1 cj) (.slice aq m1 cq) u w7 (doneW (cutW ls) k u.ins) wr)
  case atStart => exact ⟨0, rfl, by omega, rfl, HVS.out⟩
  case round =>
    clear HVS
    rename World => wo
    obtain ⟨k, hgk, hk, rfl, hvs⟩ := hrel
    have HGK := Lib.hid hgk
    have HVS := Lib.hid hvs
    clear hgk hvs
    have d1 : wo.cell? ⟨A8, 1, none⟩ = some (.slice aj n1 cj) := HVS.out.cell (by have := HNM.out; omega) e1
    by_cases hlt : k < n1
    · obtain ⟨x, hx⟩ : ∃ x, u.ins[k]? = some x := ⟨_, List.getElem?_eq_getElem (by have := HN1.out.1; omega)⟩
      obtain ⟨b, wv, c9, e9, -, -, hs⟩ := HVS.out.slot (doneW_at (W := cutW ls) hx)
      rw [doneW_len, ← HN1.out.1] at e9
      obtain ⟨rfl, rfl⟩ : aj = some ⟨b, 0, none⟩ ∧ cj = c9 := by simpa using e9
      have HX := Lib.hid hx
      have hput := hs.put [] (.slice none 0 0) wo (fun _ _ _ => rfl) (Below.refl _ _) (Nat.le_refl _) (World.ownsRow_nil _ _ _ _) (fun s hs => by simp at hs) (.inr (.inl rfl))
      have d3 := hs.cell
      have g3 := hs.free
      clear e9 hx hs HVS
      go_upto_region 10 with fail
      have HVS := Lib.hid hput
      clear hput d1 d3 g3
      generalize wo.setCell ⟨b, k * 4 + 3, none⟩ (.slice none 0 0) = wn at *
      go_wp2_with fail
      go_loopg [10] 4 (fun g vq wr => ∃ q : Nat, g = 4 - q ∧ q ≤ 4 ∧ q ≤ nl ∧ vq = .int .i64 q ∧ VS B8 A8 (.slice (some ⟨b, 0, none⟩) n1 cj) (.slice aq m1 cq) u w7 ((doneW (cutW ls) k u.ins).set k { x with wit := (cutW ls).take q }) wr)
      case atStart => exact ⟨0, rfl, by omega, by omega, rfl, HVS.out⟩
      case round =>
        clear HVS
        rename World => wi
        obtain ⟨q, hgq, hq4, hqn, rfl, hvs⟩ := hrel
        have HGQ := Lib.hid hgq
        have HVS := Lib.hid hvs
        clear hgq hvs
        have d1 : wi.cell? ⟨A8, 1, none⟩ = some (.slice (some ⟨b, 0, none⟩) n1 cj) := HVS.out.cell (by have := HNM.out; omega) e1
        have hend : (nl ≤ q ∨ 4 ≤ q) → VS B8 A8 (.slice (some ⟨b, 0, none⟩) n1 cj) (.slice aq m1 cq) u w7 (doneW (cutW ls) (k + 1) u.ins) wi := fun h => by
          have h2 := HVS.out
          rw [cutW_end (by have := HNL.out; omega)] at h2
          rw [← doneW_set HX.out]
          exact h2
        have HEND := Lib.hid hend
        clear hend
        by_cases hq1 : q < nl
        · by_cases hq2 : q < 4
          · have hkn : k < u.ins.length := by have := HN1.out.1; omega
            obtain ⟨b2, wv, c9, e9, -, -, hs⟩ := HVS.out.slot (i := k) (x := { x with wit := (cutW ls).take q }) (by rw [List.getElem?_set_self (by rw [doneW_len]; exact hkn)])
            rw [List.length_set, doneW_len, ← HN1.out.1] at e9
            obtain ⟨rfl, rfl⟩ : b = b2 ∧ cj = c9 := by simpa using e9
            have hbw : Below w.heap.size w wi := HB.out.trans (HVS.out.bel.mono (by have := HNM.out; have := HB.out.size; omega))
            obtain ⟨bl, ol, s, rfl, hs0, hsz, g0w⟩ := HL.out.str hq1
            have g0 := below_cells hbw _ _ g0w
            have hbl := World.block_lt_of_cell? w _ g0w
            have htl : ((cutW ls).take q).length = q := by
              rw [List.length_take]; unfold cutW; rw [List.length_map, List.length_take]; have := HNL.out; omega
            obtain ⟨wa, wc, ewv, hwc, hwm⟩ := ownsRow_shape hs.row
            dsimp only at ewv hwc
            rw [htl] at ewv hwc
            subst ewv
            have d3 := hs.cell
            have g3 := hs.free
            have HSL := Lib.hid hs
            have HS0 := Lib.hid hs0
            have HTL := Lib.hid htl
            clear hs hs0 htl e9 hbw HEND hwm
            have hlo : (0 : Int) ≤ (q : Int) := by omega
            have hq1I : (q : Int) < (nl : Int) := by omega
            have hkI : (0 : Int) ≤ (k : Int) := by omega
            have hknI : (k : Int) < (n1 : Int) := by omega
            obtain ⟨m, hm⟩ : ∃ m, m = min s.size 80 := ⟨_, rfl⟩
            have hmn : min (s.size : Int) 80 = (m : Int) := by omega
            have hm0 : (0 : Int) ≤ (m : Int) := by omega
            have hm1 : (m : Int) ≤ (s.size : Int) := by omega
            have HMM := Lib.hid hm
            clear hm
            go_upto_region 13 with fail
            obtain ⟨i0, hi, hz0, hz1, hz2⟩ := info_parts info_str
            have hsx : (s.extract 0 m).size ≤ 9223372036854775807 := by have := HMM.out; rw [ByteArray.size_extract]; omega
            have hrow : wi.drew.ownsRow B8 9 1 (.slice wa q wc) q (strCells ((cutW ls).take q)) := by
              have h := HSL.out.row
              dsimp only at h
              rw [HTL.out] at h
              exact h.drew
            obtain ⟨a2, c2, w2', hrun, hown2, hb2, hg2, hv2⟩ := append_one (P := Try.prog) Try.underlying45 hi hz0 hz1 hz2 rfl hrow #[.string (s.extract 0 m)] rfl (by simp [Value.oneCell']) (by rw [maxLen_eq]; omega) (by omega) (by have := HVS.out.size; have := HVS.out.hic; have := HNM.out; show B8 ≤ wi.heap.size; omega) (ty := 45)
            have hkp : ∀ j, j < wi.heap.size → (Value.slice wa q wc).ownBlock ≠ some j → w2'.heap[j]? = wi.heap[j]? := fun j hj hn => by
              rw [hg2.block j (by simp; omega) (fun e => hn e.symm)]
              exact Below.heap_alloc _ _ j hj
            have hA8 := (Array.getElem?_eq_some_iff.1 HZ.out).1
            have hA8i : A8 < wi.heap.size := Nat.lt_of_lt_of_le hA8 HVS.out.size
            have hcA : ∀ (j : Nat), w2'.cell? ⟨A8, j, none⟩ = wi.cell? ⟨A8, j, none⟩ := fun j => World.cell?_of_block (hkp A8 hA8i fun e => by have h1 := HSL.out.wlt A8 e; have := HNM.out; omega)
            have hcb : w2'.heap[b]? = wi.heap[b]? := hkp b HSL.out.is.1 HSL.out.is.2.2.2
            have d1' := (hcA 1).trans d1
            have d3' := (World.cell?_of_block (a := ⟨b, k * 4 + 3, none⟩) hcb).trans d3
            have g3' : w2'.frozen? ⟨b, k * 4 + 3, none⟩ = false := by rw [World.frozen?_of_block (a := ⟨b, k * 4 + 3, none⟩) hcb]; exact g3
            have g0' := (World.cell?_of_block (a := ⟨bl, ol + q, none⟩) (hkp bl (by have := HVS.out.size; have := HVS.out.hic; have := HNM.out; dsimp only at hbl; omega) fun e => by have h1 := HSL.out.wlt bl e; have := HNM.out; dsimp only at hbl; omega)).trans g0
            have hput := HSL.out.put ((cutW ls).take (q + 1)) (.slice a2 (q + 1) c2) w2' hkp ((Below.refl B8 wi).drew.trans hb2) (Nat.le_trans (by simp) hg2.size)
              (by
                have e1 := cutW_step HS0.out hq2
                have e2 : strCells ((cutW ls).take (q + 1)) = strCells ((cutW ls).take q) ++ [.string (s.extract 0 m)] := by rw [e1, cap_extract s m HMM.out]; simp [strCells]
                have e3 : ((cutW ls).take (q + 1)).length = q + 1 := by rw [e1, List.length_append, HTL.out]; rfl
                rw [e2, e3]
                exact hown2)
              (fun s' hs' => by
                have := (cutW_small ls).2 s' (List.mem_of_mem_take hs')
                rw [maxLen_eq]; omega)
              (by
                rcases hv2 with h | h
                · exact .inl h
                · exact .inr (.inr ⟨_, h, by show wi.heap.size ≤ wi.heap.size + 1; omega⟩))
            rw [List.set_set] at hput
            have HP := Lib.hid hput
            have HR := Lib.hid (show (Builtin.append_ #[45, 45] 45 #[.slice wa q wc, .slice (some ⟨wi.heap.size, 0, none⟩) 1 1]).run Try.prog ((wi.alloc (.cells #[.string (s.extract 0 m)] 9)).drew) = .ok (.slice a2 (q + 1) c2) w2' from hrun)
            clear hput hrun hown2 hb2 hg2 hv2 hkp hA8 hA8i hcA hcb hrow hi hz0 hz1 hz2 i0 hsx g0w hbl HVS HSL
            have HRD := Lib.hid (fun (L : Nat → Prop) (wr : World) (hw : WX 20 21 24 wi.drew (wi.alloc (.cells #[.string (s.extract 0 m)] 9)).drew w2' (w2'.setCell ⟨b, k * 4 + 3, none⟩ (.slice a2 (q + 1) c2)) L wr) (n3 : ¬ L 24) (h21 : L 21 → L 20) =>
              hw.read n3 h21 (fun y => y.cell? ⟨A8, 1, none⟩ = some (.slice (some ⟨b, 0, none⟩) n1 cj) ∧ y.cell? ⟨b, k * 4 + 3, none⟩ = some (.slice wa q wc) ∧ y.cell? ⟨bl, ol + q, none⟩ = some (.string s))
                ⟨d1, d3, g0⟩ ⟨cell_over d1 _, cell_over d3 _, cell_over g0 _⟩ ⟨d1', d3', g0'⟩)
            have HIB := Lib.hid (And.intro hlo (And.intro hq1I (And.intro hkI (And.intro hknI (And.intro hmn (And.intro hm0 hm1))))))
            refine wp_region_vals (RL [.pointer (some ⟨A8, 1, none⟩), .slice (some ⟨b, 0, none⟩) n1 cj, .int .i64 k, .pointer (some ⟨A8, 1, none⟩), .slice (some ⟨b, 0, none⟩) n1 cj, .int .i64 k, .pointer (some ⟨b, k * 4, none⟩), .pointer (some ⟨b, k * 4 + 3, none⟩), .slice wa q wc, .slice (some ⟨bl, ol, none⟩) nl cl, .int .i64 q, .pointer (some ⟨bl, ol + q, none⟩), .string s, .slice (some ⟨bl, ol, none⟩) nl cl, .int .i64 q, .pointer (some ⟨bl, ol + q, none⟩), .string s, .int .i64 s.size, .int .i64 m, .string (s.extract 0 m), .slice (some ⟨wi.heap.size, 0, none⟩) 1 1, .slice a2 (q + 1 : Nat) c2, .pointer (some ⟨b, k * 4, none⟩), .pointer (some ⟨b, k * 4 + 3, none⟩), undef]) (WX 20 21 24 wi.drew (wi.alloc (.cells #[.string (s.extract 0 m)] 9)).drew w2' (w2'.setCell ⟨b, k * 4 + 3, none⟩ (.slice a2 (q + 1) c2))) (by kernel_rfl) (by kernel_rfl) (by kernel_rfl) (by kernel_rfl) (WX.start) ?_ ?_
            · intro i o hi ho L xs wr hmd hw hni hpre
              obtain ⟨x0, x1, x2, x3, x4, x5, x6, x7, x8, x9, x10, x11, x12, x13, x14, x15, x16, x17, x18, x19, x20, x21, x22, x23, x24, rfl⟩ : ∃ x0 x1 x2 x3 x4 x5 x6 x7 x8 x9 x10 x11 x12 x13 x14 x15 x16 x17 x18 x19 x20 x21 x22 x23 x24, xs = [x0, x1, x2, x3, x4, x5, x6, x7, x8, x9, x10, x11, x12, x13, x14, x15, x16, x17, x18, x19, x20, x21, x22, x23, x24] := by match xs, hmd.len with | [x0, x1, x2, x3, x4, x5, x6, x7, x8, x9, x10, x11, x12, x13, x14, x15, x16, x17, x18, x19, x20, x21, x22, x23, x24], _ => exact ⟨_, _, _, _, _, _, _, _, _, _, _, _, _, _, _, _, _, _, _, _, _, _, _, _, _, rfl⟩
              match i, ho with
              | 0, ho =>
                obtain rfl := Option.some.inj ho
                have kk := fun lx ox ax => @vstep_run Try.prog lx [x0, x1, x2, x3, x4, x5, x6, x7, x8, x9, x10, x11, x12, x13, x14, x15, x16, x17, x18, x19, x20, x21, x22, x23, x24] (RL [.pointer (some ⟨A8, 1, none⟩), .slice (some ⟨b, 0, none⟩) n1 cj, .int .i64 k, .pointer (some ⟨A8, 1, none⟩), .slice (some ⟨b, 0, none⟩) n1 cj, .int .i64 k, .pointer (some ⟨b, k * 4, none⟩), .pointer (some ⟨b, k * 4 + 3, none⟩), .slice wa q wc, .slice (some ⟨bl, ol, none⟩) nl cl, .int .i64 q, .pointer (some ⟨bl, ol + q, none⟩), .string s, .slice (some ⟨bl, ol, none⟩) nl cl, .int .i64 q, .pointer (some ⟨bl, ol + q, none⟩), .string s, .int .i64 s.size, .int .i64 m, .string (s.extract 0 m), .slice (some ⟨wi.heap.size, 0, none⟩) 1 1, .slice a2 (q + 1 : Nat) c2, .pointer (some ⟨b, k * 4, none⟩), .pointer (some ⟨b, k * 4 + 3, none⟩), undef]) (WX 20 21 24 wi.drew (wi.alloc (.cells #[.string (s.extract 0 m)] 9)).drew w2' (w2'.setCell ⟨b, k * 4 + 3, none⟩ (.slice a2 (q + 1) c2))) L ox ax wr wr 0 (.pointer (some ⟨A8, 1, none⟩))
                refine kk _ _ _ ?_ ?_ ?_
                · kernel_rfl
                · exact rfl
                · exact hw.add 0 (by decide) (by decide) (by decide)
              | 1, ho =>
                obtain rfl := Option.some.inj ho
                have h_0 : x0 = .pointer (some ⟨A8, 1, none⟩) := hmd.rel 0 (hpre 0 (by kernel_rfl))
                subst h_0
                have kk := fun lx ox ax => @vstep_run Try.prog lx [(.pointer (some ⟨A8, 1, none⟩)), x1, x2, x3, x4, x5, x6, x7, x8, x9, x10, x11, x12, x13, x14, x15, x16, x17, x18, x19, x20, x21, x22, x23, x24] (RL [.pointer (some ⟨A8, 1, none⟩), .slice (some ⟨b, 0, none⟩) n1 cj, .int .i64 k, .pointer (some ⟨A8, 1, none⟩), .slice (some ⟨b, 0, none⟩) n1 cj, .int .i64 k, .pointer (some ⟨b, k * 4, none⟩), .pointer (some ⟨b, k * 4 + 3, none⟩), .slice wa q wc, .slice (some ⟨bl, ol, none⟩) nl cl, .int .i64 q, .pointer (some ⟨bl, ol + q, none⟩), .string s, .slice (some ⟨bl, ol, none⟩) nl cl, .int .i64 q, .pointer (some ⟨bl, ol + q, none⟩), .string s, .int .i64 s.size, .int .i64 m, .string (s.extract 0 m), .slice (some ⟨wi.heap.size, 0, none⟩) 1 1, .slice a2 (q + 1 : Nat) c2, .pointer (some ⟨b, k * 4, none⟩), .pointer (some ⟨b, k * 4 + 3, none⟩), undef]) (WX 20 21 24 wi.drew (wi.alloc (.cells #[.string (s.extract 0 m)] 9)).drew w2' (w2'.setCell ⟨b, k * 4 + 3, none⟩ (.slice a2 (q + 1) c2))) L ox ax wr wr 1 (.slice (some ⟨b, 0, none⟩) n1 cj)
                refine kk _ _ _ ?_ ?_ ?_
                · (have hrd := (HRD.out L wr hw (fun h => hni (hmd.closed 24 h 1 (by kernel_rfl))) (fun h => hmd.closed 21 h 20 (by kernel_rfl))).1; simp [putAll, execOp, go_sem, hrd])
                · exact rfl
                · exact hw.add 1 (by decide) (by decide) (by decide)
              | 2, ho =>
                obtain rfl := Option.some.inj ho
                have kk := fun lx ox ax => @vstep_run Try.prog lx [x0, x1, x2, x3, x4, x5, x6, x7, x8, x9, x10, x11, x12, x13, x14, x15, x16, x17, x18, x19, x20, x21, x22, x23, x24] (RL [.pointer (some ⟨A8, 1, none⟩), .slice (some ⟨b, 0, none⟩) n1 cj, .int .i64 k, .pointer (some ⟨A8, 1, none⟩), .slice (some ⟨b, 0, none⟩) n1 cj, .int .i64 k, .pointer (some ⟨b, k * 4, none⟩), .pointer (some ⟨b, k * 4 + 3, none⟩), .slice wa q wc, .slice (some ⟨bl, ol, none⟩) nl cl, .int .i64 q, .pointer (some ⟨bl, ol + q, none⟩), .string s, .slice (some ⟨bl, ol, none⟩) nl cl, .int .i64 q, .pointer (some ⟨bl, ol + q, none⟩), .string s, .int .i64 s.size, .int .i64 m, .string (s.extract 0 m), .slice (some ⟨wi.heap.size, 0, none⟩) 1 1, .slice a2 (q + 1 : Nat) c2, .pointer (some ⟨b, k * 4, none⟩), .pointer (some ⟨b, k * 4 + 3, none⟩), undef]) (WX 20 21 24 wi.drew (wi.alloc (.cells #[.string (s.extract 0 m)] 9)).drew w2' (w2'.setCell ⟨b, k * 4 + 3, none⟩ (.slice a2 (q + 1) c2))) L ox ax wr wr 2 (.int .i64 k)
                refine kk _ _ _ ?_ ?_ ?_
                · kernel_rfl
                · exact rfl
                · exact hw.add 2 (by decide) (by decide) (by decide)
              | 3, ho =>
                obtain rfl := Option.some.inj ho
                have kk := fun lx ox ax => @vstep_run Try.prog lx [x0, x1, x2, x3, x4, x5, x6, x7, x8, x9, x10, x11, x12, x13, x14, x15, x16, x17, x18, x19, x20, x21, x22, x23, x24] (RL [.pointer (some ⟨A8, 1, none⟩), .slice (some ⟨b, 0, none⟩) n1 cj, .int .i64 k, .pointer (some ⟨A8, 1, none⟩), .slice (some ⟨b, 0, none⟩) n1 cj, .int .i64 k, .pointer (some ⟨b, k * 4, none⟩), .pointer (some ⟨b, k * 4 + 3, none⟩), .slice wa q wc, .slice (some ⟨bl, ol, none⟩) nl cl, .int .i64 q, .pointer (some ⟨bl, ol + q, none⟩), .string s, .slice (some ⟨bl, ol, none⟩) nl cl, .int .i64 q, .pointer (some ⟨bl, ol + q, none⟩), .string s, .int .i64 s.size, .int .i64 m, .string (s.extract 0 m), .slice (some ⟨wi.heap.size, 0, none⟩) 1 1, .slice a2 (q + 1 : Nat) c2, .pointer (some ⟨b, k * 4, none⟩), .pointer (some ⟨b, k * 4 + 3, none⟩), undef]) (WX 20 21 24 wi.drew (wi.alloc (.cells #[.string (s.extract 0 m)] 9)).drew w2' (w2'.setCell ⟨b, k * 4 + 3, none⟩ (.slice a2 (q + 1) c2))) L ox ax wr wr 3 (.pointer (some ⟨A8, 1, none⟩))
                refine kk _ _ _ ?_ ?_ ?_
                · kernel_rfl
                · exact rfl
                · exact hw.add 3 (by decide) (by decide) (by decide)
              | 4, ho =>
                obtain rfl := Option.some.inj ho
                have h_3 : x3 = .pointer (some ⟨A8, 1, none⟩) := hmd.rel 3 (hpre 3 (by kernel_rfl))
                subst h_3
                have kk := fun lx ox ax => @vstep_run Try.prog lx [x0, x1, x2, (.pointer (some ⟨A8, 1, none⟩)), x4, x5, x6, x7, x8, x9, x10, x11, x12, x13, x14, x15, x16, x17, x18, x19, x20, x21, x22, x23, x24] (RL [.pointer (some ⟨A8, 1, none⟩), .slice (some ⟨b, 0, none⟩) n1 cj, .int .i64 k, .pointer (some ⟨A8, 1, none⟩), .slice (some ⟨b, 0, none⟩) n1 cj, .int .i64 k, .pointer (some ⟨b, k * 4, none⟩), .pointer (some ⟨b, k * 4 + 3, none⟩), .slice wa q wc, .slice (some ⟨bl, ol, none⟩) nl cl, .int .i64 q, .pointer (some ⟨bl, ol + q, none⟩), .string s, .slice (some ⟨bl, ol, none⟩) nl cl, .int .i64 q, .pointer (some ⟨bl, ol + q, none⟩), .string s, .int .i64 s.size, .int .i64 m, .string (s.extract 0 m), .slice (some ⟨wi.heap.size, 0, none⟩) 1 1, .slice a2 (q + 1 : Nat) c2, .pointer (some ⟨b, k * 4, none⟩), .pointer (some ⟨b, k * 4 + 3, none⟩), undef]) (WX 20 21 24 wi.drew (wi.alloc (.cells #[.string (s.extract 0 m)] 9)).drew w2' (w2'.setCell ⟨b, k * 4 + 3, none⟩ (.slice a2 (q + 1) c2))) L ox ax wr wr 4 (.slice (some ⟨b, 0, none⟩) n1 cj)
                refine kk _ _ _ ?_ ?_ ?_
                · (have hrd := (HRD.out L wr hw (fun h => hni (hmd.closed 24 h 4 (by kernel_rfl))) (fun h => hmd.closed 21 h 20 (by kernel_rfl))).1; simp [putAll, execOp, go_sem, hrd])
                · exact rfl
                · exact hw.add 4 (by decide) (by decide) (by decide)
              | 5, ho =>
                obtain rfl := Option.some.inj ho
                have kk := fun lx ox ax => @vstep_run Try.prog lx [x0, x1, x2, x3, x4, x5, x6, x7, x8, x9, x10, x11, x12, x13, x14, x15, x16, x17, x18, x19, x20, x21, x22, x23, x24] (RL [.pointer (some ⟨A8, 1, none⟩), .slice (some ⟨b, 0, none⟩) n1 cj, .int .i64 k, .pointer (some ⟨A8, 1, none⟩), .slice (some ⟨b, 0, none⟩) n1 cj, .int .i64 k, .pointer (some ⟨b, k * 4, none⟩), .pointer (some ⟨b, k * 4 + 3, none⟩), .slice wa q wc, .slice (some ⟨bl, ol, none⟩) nl cl, .int .i64 q, .pointer (some ⟨bl, ol + q, none⟩), .string s, .slice (some ⟨bl, ol, none⟩) nl cl, .int .i64 q, .pointer (some ⟨bl, ol + q, none⟩), .string s, .int .i64 s.size, .int .i64 m, .string (s.extract 0 m), .slice (some ⟨wi.heap.size, 0, none⟩) 1 1, .slice a2 (q + 1 : Nat) c2, .pointer (some ⟨b, k * 4, none⟩), .pointer (some ⟨b, k * 4 + 3, none⟩), undef]) (WX 20 21 24 wi.drew (wi.alloc (.cells #[.string (s.extract 0 m)] 9)).drew w2' (w2'.setCell ⟨b, k * 4 + 3, none⟩ (.slice a2 (q + 1) c2))) L ox ax wr wr 5 (.int .i64 k)
                refine kk _ _ _ ?_ ?_ ?_
                · kernel_rfl
                · exact rfl
                · exact hw.add 5 (by decide) (by decide) (by decide)
              | 6, ho =>
                obtain rfl := Option.some.inj ho
                have h_4 : x4 = .slice (some ⟨b, 0, none⟩) n1 cj := hmd.rel 4 (hpre 4 (by kernel_rfl))
                subst h_4
                have h_5 : x5 = .int .i64 k := hmd.rel 5 (hpre 5 (by kernel_rfl))
                subst h_5
                have kk := fun lx ox ax => @vstep_run Try.prog lx [x0, x1, x2, x3, (.slice (some ⟨b, 0, none⟩) n1 cj), (.int .i64 k), x6, x7, x8, x9, x10, x11, x12, x13, x14, x15, x16, x17, x18, x19, x20, x21, x22, x23, x24] (RL [.pointer (some ⟨A8, 1, none⟩), .slice (some ⟨b, 0, none⟩) n1 cj, .int .i64 k, .pointer (some ⟨A8, 1, none⟩), .slice (some ⟨b, 0, none⟩) n1 cj, .int .i64 k, .pointer (some ⟨b, k * 4, none⟩), .pointer (some ⟨b, k * 4 + 3, none⟩), .slice wa q wc, .slice (some ⟨bl, ol, none⟩) nl cl, .int .i64 q, .pointer (some ⟨bl, ol + q, none⟩), .string s, .slice (some ⟨bl, ol, none⟩) nl cl, .int .i64 q, .pointer (some ⟨bl, ol + q, none⟩), .string s, .int .i64 s.size, .int .i64 m, .string (s.extract 0 m), .slice (some ⟨wi.heap.size, 0, none⟩) 1 1, .slice a2 (q + 1 : Nat) c2, .pointer (some ⟨b, k * 4, none⟩), .pointer (some ⟨b, k * 4 + 3, none⟩), undef]) (WX 20 21 24 wi.drew (wi.alloc (.cells #[.string (s.extract 0 m)] 9)).drew w2' (w2'.setCell ⟨b, k * 4 + 3, none⟩ (.slice a2 (q + 1) c2))) L ox ax wr wr 6 (.pointer (some ⟨b, k * 4, none⟩))
                refine kk _ _ _ ?_ ?_ ?_
                · (have hib := HIB.out; simp [putAll, execOp, go_sem, hib])
                · exact rfl
                · exact hw.add 6 (by decide) (by decide) (by decide)
              | 7, ho =>
                obtain rfl := Option.some.inj ho
                have h_6 : x6 = .pointer (some ⟨b, k * 4, none⟩) := hmd.rel 6 (hpre 6 (by kernel_rfl))
                subst h_6
                have kk := fun lx ox ax => @vstep_run Try.prog lx [x0, x1, x2, x3, x4, x5, (.pointer (some ⟨b, k * 4, none⟩)), x7, x8, x9, x10, x11, x12, x13, x14, x15, x16, x17, x18, x19, x20, x21, x22, x23, x24] (RL [.pointer (some ⟨A8, 1, none⟩), .slice (some ⟨b, 0, none⟩) n1 cj, .int .i64 k, .pointer (some ⟨A8, 1, none⟩), .slice (some ⟨b, 0, none⟩) n1 cj, .int .i64 k, .pointer (some ⟨b, k * 4, none⟩), .pointer (some ⟨b, k * 4 + 3, none⟩), .slice wa q wc, .slice (some ⟨bl, ol, none⟩) nl cl, .int .i64 q, .pointer (some ⟨bl, ol + q, none⟩), .string s, .slice (some ⟨bl, ol, none⟩) nl cl, .int .i64 q, .pointer (some ⟨bl, ol + q, none⟩), .string s, .int .i64 s.size, .int .i64 m, .string (s.extract 0 m), .slice (some ⟨wi.heap.size, 0, none⟩) 1 1, .slice a2 (q + 1 : Nat) c2, .pointer (some ⟨b, k * 4, none⟩), .pointer (some ⟨b, k * 4 + 3, none⟩), undef]) (WX 20 21 24 wi.drew (wi.alloc (.cells #[.string (s.extract 0 m)] 9)).drew w2' (w2'.setCell ⟨b, k * 4 + 3, none⟩ (.slice a2 (q + 1) c2))) L ox ax wr wr 7 (.pointer (some ⟨b, k * 4 + 3, none⟩))
                refine kk _ _ _ ?_ ?_ ?_
                · kernel_rfl
                · exact rfl
                · exact hw.add 7 (by decide) (by decide) (by decide)
              | 8, ho =>
                obtain rfl := Option.some.inj ho
                have h_7 : x7 = .pointer (some ⟨b, k * 4 + 3, none⟩) := hmd.rel 7 (hpre 7 (by kernel_rfl))
                subst h_7
                have kk := fun lx ox ax => @vstep_run Try.prog lx [x0, x1, x2, x3, x4, x5, x6, (.pointer (some ⟨b, k * 4 + 3, none⟩)), x8, x9, x10, x11, x12, x13, x14, x15, x16, x17, x18, x19, x20, x21, x22, x23, x24] (RL [.pointer (some ⟨A8, 1, none⟩), .slice (some ⟨b, 0, none⟩) n1 cj, .int .i64 k, .pointer (some ⟨A8, 1, none⟩), .slice (some ⟨b, 0, none⟩) n1 cj, .int .i64 k, .pointer (some ⟨b, k * 4, none⟩), .pointer (some ⟨b, k * 4 + 3, none⟩), .slice wa q wc, .slice (some ⟨bl, ol, none⟩) nl cl, .int .i64 q, .pointer (some ⟨bl, ol + q, none⟩), .string s, .slice (some ⟨bl, ol, none⟩) nl cl, .int .i64 q, .pointer (some ⟨bl, ol + q, none⟩), .string s, .int .i64 s.size, .int .i64 m, .string (s.extract 0 m), .slice (some ⟨wi.heap.size, 0, none⟩) 1 1, .slice a2 (q + 1 : Nat) c2, .pointer (some ⟨b, k * 4, none⟩), .pointer (some ⟨b, k * 4 + 3, none⟩), undef]) (WX 20 21 24 wi.drew (wi.alloc (.cells #[.string (s.extract 0 m)] 9)).drew w2' (w2'.setCell ⟨b, k * 4 + 3, none⟩ (.slice a2 (q + 1) c2))) L ox ax wr wr 8 (.slice wa q wc)
                refine kk _ _ _ ?_ ?_ ?_
                · (have hrd := (HRD.out L wr hw (fun h => hni (hmd.closed 24 h 8 (by kernel_rfl))) (fun h => hmd.closed 21 h 20 (by kernel_rfl))).2.1; simp [putAll, execOp, go_sem, hrd])
                · exact rfl
                · exact hw.add 8 (by decide) (by decide) (by decide)
              | 9, ho =>
                obtain rfl := Option.some.inj ho
                have kk := fun lx ox ax => @vstep_run Try.prog lx [x0, x1, x2, x3, x4, x5, x6, x7, x8, x9, x10, x11, x12, x13, x14, x15, x16, x17, x18, x19, x20, x21, x22, x23, x24] (RL [.pointer (some ⟨A8, 1, none⟩), .slice (some ⟨b, 0, none⟩) n1 cj, .int .i64 k, .pointer (some ⟨A8, 1, none⟩), .slice (some ⟨b, 0, none⟩) n1 cj, .int .i64 k, .pointer (some ⟨b, k * 4, none⟩), .pointer (some ⟨b, k * 4 + 3, none⟩), .slice wa q wc, .slice (some ⟨bl, ol, none⟩) nl cl, .int .i64 q, .pointer (some ⟨bl, ol + q, none⟩), .string s, .slice (some ⟨bl, ol, none⟩) nl cl, .int .i64 q, .pointer (some ⟨bl, ol + q, none⟩), .string s, .int .i64 s.size, .int .i64 m, .string (s.extract 0 m), .slice (some ⟨wi.heap.size, 0, none⟩) 1 1, .slice a2 (q + 1 : Nat) c2, .pointer (some ⟨b, k * 4, none⟩), .pointer (some ⟨b, k * 4 + 3, none⟩), undef]) (WX 20 21 24 wi.drew (wi.alloc (.cells #[.string (s.extract 0 m)] 9)).drew w2' (w2'.setCell ⟨b, k * 4 + 3, none⟩ (.slice a2 (q + 1) c2))) L ox ax wr wr 9 (.slice (some ⟨bl, ol, none⟩) nl cl)
                refine kk _ _ _ ?_ ?_ ?_
                · kernel_rfl
                · exact rfl
                · exact hw.add 9 (by decide) (by decide) (by decide)
              | 10, ho =>
                obtain rfl := Option.some.inj ho
                have kk := fun lx ox ax => @vstep_run Try.prog lx [x0, x1, x2, x3, x4, x5, x6, x7, x8, x9, x10, x11, x12, x13, x14, x15, x16, x17, x18, x19, x20, x21, x22, x23, x24] (RL [.pointer (some ⟨A8, 1, none⟩), .slice (some ⟨b, 0, none⟩) n1 cj, .int .i64 k, .pointer (some ⟨A8, 1, none⟩), .slice (some ⟨b, 0, none⟩) n1 cj, .int .i64 k, .pointer (some ⟨b, k * 4, none⟩), .pointer (some ⟨b, k * 4 + 3, none⟩), .slice wa q wc, .slice (some ⟨bl, ol, none⟩) nl cl, .int .i64 q, .pointer (some ⟨bl, ol + q, none⟩), .string s, .slice (some ⟨bl, ol, none⟩) nl cl, .int .i64 q, .pointer (some ⟨bl, ol + q, none⟩), .string s, .int .i64 s.size, .int .i64 m, .string (s.extract 0 m), .slice (some ⟨wi.heap.size, 0, none⟩) 1 1, .slice a2 (q + 1 : Nat) c2, .pointer (some ⟨b, k * 4, none⟩), .pointer (some ⟨b, k * 4 + 3, none⟩), undef]) (WX 20 21 24 wi.drew (wi.alloc (.cells #[.string (s.extract 0 m)] 9)).drew w2' (w2'.setCell ⟨b, k * 4 + 3, none⟩ (.slice a2 (q + 1) c2))) L ox ax wr wr 10 (.int .i64 q)
                refine kk _ _ _ ?_ ?_ ?_
                · kernel_rfl
                · exact rfl
                · exact hw.add 10 (by decide) (by decide) (by decide)
              | 11, ho =>
                obtain rfl := Option.some.inj ho
                have h_9 : x9 = .slice (some ⟨bl, ol, none⟩) nl cl := hmd.rel 9 (hpre 9 (by kernel_rfl))
                subst h_9
                have h_10 : x10 = .int .i64 q := hmd.rel 10 (hpre 10 (by kernel_rfl))
                subst h_10
                have kk := fun lx ox ax => @vstep_run Try.prog lx [x0, x1, x2, x3, x4, x5, x6, x7, x8, (.slice (some ⟨bl, ol, none⟩) nl cl), (.int .i64 q), x11, x12, x13, x14, x15, x16, x17, x18, x19, x20, x21, x22, x23, x24] (RL [.pointer (some ⟨A8, 1, none⟩), .slice (some ⟨b, 0, none⟩) n1 cj, .int .i64 k, .pointer (some ⟨A8, 1, none⟩), .slice (some ⟨b, 0, none⟩) n1 cj, .int .i64 k, .pointer (some ⟨b, k * 4, none⟩), .pointer (some ⟨b, k * 4 + 3, none⟩), .slice wa q wc, .slice (some ⟨bl, ol, none⟩) nl cl, .int .i64 q, .pointer (some ⟨bl, ol + q, none⟩), .string s, .slice (some ⟨bl, ol, none⟩) nl cl, .int .i64 q, .pointer (some ⟨bl, ol + q, none⟩), .string s, .int .i64 s.size, .int .i64 m, .string (s.extract 0 m), .slice (some ⟨wi.heap.size, 0, none⟩) 1 1, .slice a2 (q + 1 : Nat) c2, .pointer (some ⟨b, k * 4, none⟩), .pointer (some ⟨b, k * 4 + 3, none⟩), undef]) (WX 20 21 24 wi.drew (wi.alloc (.cells #[.string (s.extract 0 m)] 9)).drew w2' (w2'.setCell ⟨b, k * 4 + 3, none⟩ (.slice a2 (q + 1) c2))) L ox ax wr wr 11 (.pointer (some ⟨bl, ol + q, none⟩))
                refine kk _ _ _ ?_ ?_ ?_
                · (have hib := HIB.out; simp [putAll, execOp, go_sem, hib])
                · exact rfl
                · exact hw.add 11 (by decide) (by decide) (by decide)
              | 12, ho =>
                obtain rfl := Option.some.inj ho
                have h_11 : x11 = .pointer (some ⟨bl, ol + q, none⟩) := hmd.rel 11 (hpre 11 (by kernel_rfl))
                subst h_11
                have kk := fun lx ox ax => @vstep_run Try.prog lx [x0, x1, x2, x3, x4, x5, x6, x7, x8, x9, x10, (.pointer (some ⟨bl, ol + q, none⟩)), x12, x13, x14, x15, x16, x17, x18, x19, x20, x21, x22, x23, x24] (RL [.pointer (some ⟨A8, 1, none⟩), .slice (some ⟨b, 0, none⟩) n1 cj, .int .i64 k, .pointer (some ⟨A8, 1, none⟩), .slice (some ⟨b, 0, none⟩) n1 cj, .int .i64 k, .pointer (some ⟨b, k * 4, none⟩), .pointer (some ⟨b, k * 4 + 3, none⟩), .slice wa q wc, .slice (some ⟨bl, ol, none⟩) nl cl, .int .i64 q, .pointer (some ⟨bl, ol + q, none⟩), .string s, .slice (some ⟨bl, ol, none⟩) nl cl, .int .i64 q, .pointer (some ⟨bl, ol + q, none⟩), .string s, .int .i64 s.size, .int .i64 m, .string (s.extract 0 m), .slice (some ⟨wi.heap.size, 0, none⟩) 1 1, .slice a2 (q + 1 : Nat) c2, .pointer (some ⟨b, k * 4, none⟩), .pointer (some ⟨b, k * 4 + 3, none⟩), undef]) (WX 20 21 24 wi.drew (wi.alloc (.cells #[.string (s.extract 0 m)] 9)).drew w2' (w2'.setCell ⟨b, k * 4 + 3, none⟩ (.slice a2 (q + 1) c2))) L ox ax wr wr 12 (.string s)
                refine kk _ _ _ ?_ ?_ ?_
                · (have hrd := (HRD.out L wr hw (fun h => hni (hmd.closed 24 h 12 (by kernel_rfl))) (fun h => hmd.closed 21 h 20 (by kernel_rfl))).2.2; simp [putAll, execOp, go_sem, hrd])
                · exact rfl
                · exact hw.add 12 (by decide) (by decide) (by decide)
              | 13, ho =>
                obtain rfl := Option.some.inj ho
                have kk := fun lx ox ax => @vstep_run Try.prog lx [x0, x1, x2, x3, x4, x5, x6, x7, x8, x9, x10, x11, x12, x13, x14, x15, x16, x17, x18, x19, x20, x21, x22, x23, x24] (RL [.pointer (some ⟨A8, 1, none⟩), .slice (some ⟨b, 0, none⟩) n1 cj, .int .i64 k, .pointer (some ⟨A8, 1, none⟩), .slice (some ⟨b, 0, none⟩) n1 cj, .int .i64 k, .pointer (some ⟨b, k * 4, none⟩), .pointer (some ⟨b, k * 4 + 3, none⟩), .slice wa q wc, .slice (some ⟨bl, ol, none⟩) nl cl, .int .i64 q, .pointer (some ⟨bl, ol + q, none⟩), .string s, .slice (some ⟨bl, ol, none⟩) nl cl, .int .i64 q, .pointer (some ⟨bl, ol + q, none⟩), .string s, .int .i64 s.size, .int .i64 m, .string (s.extract 0 m), .slice (some ⟨wi.heap.size, 0, none⟩) 1 1, .slice a2 (q + 1 : Nat) c2, .pointer (some ⟨b, k * 4, none⟩), .pointer (some ⟨b, k * 4 + 3, none⟩), undef]) (WX 20 21 24 wi.drew (wi.alloc (.cells #[.string (s.extract 0 m)] 9)).drew w2' (w2'.setCell ⟨b, k * 4 + 3, none⟩ (.slice a2 (q + 1) c2))) L ox ax wr wr 13 (.slice (some ⟨bl, ol, none⟩) nl cl)
                refine kk _ _ _ ?_ ?_ ?_
                · kernel_rfl
                · exact rfl
                · exact hw.add 13 (by decide) (by decide) (by decide)
              | 14, ho =>
                obtain rfl := Option.some.inj ho
                have kk := fun lx ox ax => @vstep_run Try.prog lx [x0, x1, x2, x3, x4, x5, x6, x7, x8, x9, x10, x11, x12, x13, x14, x15, x16, x17, x18, x19, x20, x21, x22, x23, x24] (RL [.pointer (some ⟨A8, 1, none⟩), .slice (some ⟨b, 0, none⟩) n1 cj, .int .i64 k, .pointer (some ⟨A8, 1, none⟩), .slice (some ⟨b, 0, none⟩) n1 cj, .int .i64 k, .pointer (some ⟨b, k * 4, none⟩), .pointer (some ⟨b, k * 4 + 3, none⟩), .slice wa q wc, .slice (some ⟨bl, ol, none⟩) nl cl, .int .i64 q, .pointer (some ⟨bl, ol + q, none⟩), .string s, .slice (some ⟨bl, ol, none⟩) nl cl, .int .i64 q, .pointer (some ⟨bl, ol + q, none⟩), .string s, .int .i64 s.size, .int .i64 m, .string (s.extract 0 m), .slice (some ⟨wi.heap.size, 0, none⟩) 1 1, .slice a2 (q + 1 : Nat) c2, .pointer (some ⟨b, k * 4, none⟩), .pointer (some ⟨b, k * 4 + 3, none⟩), undef]) (WX 20 21 24 wi.drew (wi.alloc (.cells #[.string (s.extract 0 m)] 9)).drew w2' (w2'.setCell ⟨b, k * 4 + 3, none⟩ (.slice a2 (q + 1) c2))) L ox ax wr wr 14 (.int .i64 q)
                refine kk _ _ _ ?_ ?_ ?_
                · kernel_rfl
                · exact rfl
                · exact hw.add 14 (by decide) (by decide) (by decide)
              | 15, ho =>
                obtain rfl := Option.some.inj ho
                have h_13 : x13 = .slice (some ⟨bl, ol, none⟩) nl cl := hmd.rel 13 (hpre 13 (by kernel_rfl))
                subst h_13
                have h_14 : x14 = .int .i64 q := hmd.rel 14 (hpre 14 (by kernel_rfl))
                subst h_14
                have kk := fun lx ox ax => @vstep_run Try.prog lx [x0, x1, x2, x3, x4, x5, x6, x7, x8, x9, x10, x11, x12, (.slice (some ⟨bl, ol, none⟩) nl cl), (.int .i64 q), x15, x16, x17, x18, x19, x20, x21, x22, x23, x24] (RL [.pointer (some ⟨A8, 1, none⟩), .slice (some ⟨b, 0, none⟩) n1 cj, .int .i64 k, .pointer (some ⟨A8, 1, none⟩), .slice (some ⟨b, 0, none⟩) n1 cj, .int .i64 k, .pointer (some ⟨b, k * 4, none⟩), .pointer (some ⟨b, k * 4 + 3, none⟩), .slice wa q wc, .slice (some ⟨bl, ol, none⟩) nl cl, .int .i64 q, .pointer (some ⟨bl, ol + q, none⟩), .string s, .slice (some ⟨bl, ol, none⟩) nl cl, .int .i64 q, .pointer (some ⟨bl, ol + q, none⟩), .string s, .int .i64 s.size, .int .i64 m, .string (s.extract 0 m), .slice (some ⟨wi.heap.size, 0, none⟩) 1 1, .slice a2 (q + 1 : Nat) c2, .pointer (some ⟨b, k * 4, none⟩), .pointer (some ⟨b, k * 4 + 3, none⟩), undef]) (WX 20 21 24 wi.drew (wi.alloc (.cells #[.string (s.extract 0 m)] 9)).drew w2' (w2'.setCell ⟨b, k * 4 + 3, none⟩ (.slice a2 (q + 1) c2))) L ox ax wr wr 15 (.pointer (some ⟨bl, ol + q, none⟩))
                refine kk _ _ _ ?_ ?_ ?_
                · (have hib := HIB.out; simp [putAll, execOp, go_sem, hib])
                · exact rfl
                · exact hw.add 15 (by decide) (by decide) (by decide)
              | 16, ho =>
                obtain rfl := Option.some.inj ho
                have h_15 : x15 = .pointer (some ⟨bl, ol + q, none⟩) := hmd.rel 15 (hpre 15 (by kernel_rfl))
                subst h_15
                have kk := fun lx ox ax => @vstep_run Try.prog lx [x0, x1, x2, x3, x4, x5, x6, x7, x8, x9, x10, x11, x12, x13, x14, (.pointer (some ⟨bl, ol + q, none⟩)), x16, x17, x18, x19, x20, x21, x22, x23, x24] (RL [.pointer (some ⟨A8, 1, none⟩), .slice (some ⟨b, 0, none⟩) n1 cj, .int .i64 k, .pointer (some ⟨A8, 1, none⟩), .slice (some ⟨b, 0, none⟩) n1 cj, .int .i64 k, .pointer (some ⟨b, k * 4, none⟩), .pointer (some ⟨b, k * 4 + 3, none⟩), .slice wa q wc, .slice (some ⟨bl, ol, none⟩) nl cl, .int .i64 q, .pointer (some ⟨bl, ol + q, none⟩), .string s, .slice (some ⟨bl, ol, none⟩) nl cl, .int .i64 q, .pointer (some ⟨bl, ol + q, none⟩), .string s, .int .i64 s.size, .int .i64 m, .string (s.extract 0 m), .slice (some ⟨wi.heap.size, 0, none⟩) 1 1, .slice a2 (q + 1 : Nat) c2, .pointer (some ⟨b, k * 4, none⟩), .pointer (some ⟨b, k * 4 + 3, none⟩), undef]) (WX 20 21 24 wi.drew (wi.alloc (.cells #[.string (s.extract 0 m)] 9)).drew w2' (w2'.setCell ⟨b, k * 4 + 3, none⟩ (.slice a2 (q + 1) c2))) L ox ax wr wr 16 (.string s)
                refine kk _ _ _ ?_ ?_ ?_
                · (have hrd := (HRD.out L wr hw (fun h => hni (hmd.closed 24 h 16 (by kernel_rfl))) (fun h => hmd.closed 21 h 20 (by kernel_rfl))).2.2; simp [putAll, execOp, go_sem, hrd])
                · exact rfl
                · exact hw.add 16 (by decide) (by decide) (by decide)
              | 17, ho =>
                obtain rfl := Option.some.inj ho
                have h_16 : x16 = .string s := hmd.rel 16 (hpre 16 (by kernel_rfl))
                subst h_16
                have kk := fun lx ox ax => @vstep_run Try.prog lx [x0, x1, x2, x3, x4, x5, x6, x7, x8, x9, x10, x11, x12, x13, x14, x15, (.string s), x17, x18, x19, x20, x21, x22, x23, x24] (RL [.pointer (some ⟨A8, 1, none⟩), .slice (some ⟨b, 0, none⟩) n1 cj, .int .i64 k, .pointer (some ⟨A8, 1, none⟩), .slice (some ⟨b, 0, none⟩) n1 cj, .int .i64 k, .pointer (some ⟨b, k * 4, none⟩), .pointer (some ⟨b, k * 4 + 3, none⟩), .slice wa q wc, .slice (some ⟨bl, ol, none⟩) nl cl, .int .i64 q, .pointer (some ⟨bl, ol + q, none⟩), .string s, .slice (some ⟨bl, ol, none⟩) nl cl, .int .i64 q, .pointer (some ⟨bl, ol + q, none⟩), .string s, .int .i64 s.size, .int .i64 m, .string (s.extract 0 m), .slice (some ⟨wi.heap.size, 0, none⟩) 1 1, .slice a2 (q + 1 : Nat) c2, .pointer (some ⟨b, k * 4, none⟩), .pointer (some ⟨b, k * 4 + 3, none⟩), undef]) (WX 20 21 24 wi.drew (wi.alloc (.cells #[.string (s.extract 0 m)] 9)).drew w2' (w2'.setCell ⟨b, k * 4 + 3, none⟩ (.slice a2 (q + 1) c2))) L ox ax wr wr 17 (.int .i64 s.size)
                refine kk _ _ _ ?_ ?_ ?_
                · kernel_rfl
                · exact rfl
                · exact hw.add 17 (by decide) (by decide) (by decide)
              | 18, ho =>
                obtain rfl := Option.some.inj ho
                have h_17 : x17 = .int .i64 s.size := hmd.rel 17 (hpre 17 (by kernel_rfl))
                subst h_17
                have kk := fun lx ox ax => @vstep_run Try.prog lx [x0, x1, x2, x3, x4, x5, x6, x7, x8, x9, x10, x11, x12, x13, x14, x15, x16, (.int .i64 s.size), x18, x19, x20, x21, x22, x23, x24] (RL [.pointer (some ⟨A8, 1, none⟩), .slice (some ⟨b, 0, none⟩) n1 cj, .int .i64 k, .pointer (some ⟨A8, 1, none⟩), .slice (some ⟨b, 0, none⟩) n1 cj, .int .i64 k, .pointer (some ⟨b, k * 4, none⟩), .pointer (some ⟨b, k * 4 + 3, none⟩), .slice wa q wc, .slice (some ⟨bl, ol, none⟩) nl cl, .int .i64 q, .pointer (some ⟨bl, ol + q, none⟩), .string s, .slice (some ⟨bl, ol, none⟩) nl cl, .int .i64 q, .pointer (some ⟨bl, ol + q, none⟩), .string s, .int .i64 s.size, .int .i64 m, .string (s.extract 0 m), .slice (some ⟨wi.heap.size, 0, none⟩) 1 1, .slice a2 (q + 1 : Nat) c2, .pointer (some ⟨b, k * 4, none⟩), .pointer (some ⟨b, k * 4 + 3, none⟩), undef]) (WX 20 21 24 wi.drew (wi.alloc (.cells #[.string (s.extract 0 m)] 9)).drew w2' (w2'.setCell ⟨b, k * 4 + 3, none⟩ (.slice a2 (q + 1) c2))) L ox ax wr wr 18 (.int .i64 m)
                refine kk _ _ _ ?_ ?_ ?_
                · (have hib := HIB.out; simp [putAll, execOp, go_sem, hib])
                · exact rfl
                · exact hw.add 18 (by decide) (by decide) (by decide)
              | 19, ho =>
                obtain rfl := Option.some.inj ho
                have h_12 : x12 = .string s := hmd.rel 12 (hpre 12 (by kernel_rfl))
                subst h_12
                have h_18 : x18 = .int .i64 m := hmd.rel 18 (hpre 18 (by kernel_rfl))
                subst h_18
                have kk := fun lx ox ax => @vstep_run Try.prog lx [x0, x1, x2, x3, x4, x5, x6, x7, x8, x9, x10, x11, (.string s), x13, x14, x15, x16, x17, (.int .i64 m), x19, x20, x21, x22, x23, x24] (RL [.pointer (some ⟨A8, 1, none⟩), .slice (some ⟨b, 0, none⟩) n1 cj, .int .i64 k, .pointer (some ⟨A8, 1, none⟩), .slice (some ⟨b, 0, none⟩) n1 cj, .int .i64 k, .pointer (some ⟨b, k * 4, none⟩), .pointer (some ⟨b, k * 4 + 3, none⟩), .slice wa q wc, .slice (some ⟨bl, ol, none⟩) nl cl, .int .i64 q, .pointer (some ⟨bl, ol + q, none⟩), .string s, .slice (some ⟨bl, ol, none⟩) nl cl, .int .i64 q, .pointer (some ⟨bl, ol + q, none⟩), .string s, .int .i64 s.size, .int .i64 m, .string (s.extract 0 m), .slice (some ⟨wi.heap.size, 0, none⟩) 1 1, .slice a2 (q + 1 : Nat) c2, .pointer (some ⟨b, k * 4, none⟩), .pointer (some ⟨b, k * 4 + 3, none⟩), undef]) (WX 20 21 24 wi.drew (wi.alloc (.cells #[.string (s.extract 0 m)] 9)).drew w2' (w2'.setCell ⟨b, k * 4 + 3, none⟩ (.slice a2 (q + 1) c2))) L ox ax wr wr 19 (.string (s.extract 0 m))
                refine kk _ _ _ ?_ ?_ ?_
                · (have hib := HIB.out; simp [putAll, execOp, go_sem, hib])
                · exact rfl
                · exact hw.add 19 (by decide) (by decide) (by decide)
              | 20, ho =>
                obtain rfl := Option.some.inj ho
                have h_19 : x19 = .string (s.extract 0 m) := hmd.rel 19 (hpre 19 (by kernel_rfl))
                subst h_19
                have kk := fun lx ox ax => @vstep_run Try.prog lx [x0, x1, x2, x3, x4, x5, x6, x7, x8, x9, x10, x11, x12, x13, x14, x15, x16, x17, x18, (.string (s.extract 0 m)), x20, x21, x22, x23, x24] (RL [.pointer (some ⟨A8, 1, none⟩), .slice (some ⟨b, 0, none⟩) n1 cj, .int .i64 k, .pointer (some ⟨A8, 1, none⟩), .slice (some ⟨b, 0, none⟩) n1 cj, .int .i64 k, .pointer (some ⟨b, k * 4, none⟩), .pointer (some ⟨b, k * 4 + 3, none⟩), .slice wa q wc, .slice (some ⟨bl, ol, none⟩) nl cl, .int .i64 q, .pointer (some ⟨bl, ol + q, none⟩), .string s, .slice (some ⟨bl, ol, none⟩) nl cl, .int .i64 q, .pointer (some ⟨bl, ol + q, none⟩), .string s, .int .i64 s.size, .int .i64 m, .string (s.extract 0 m), .slice (some ⟨wi.heap.size, 0, none⟩) 1 1, .slice a2 (q + 1 : Nat) c2, .pointer (some ⟨b, k * 4, none⟩), .pointer (some ⟨b, k * 4 + 3, none⟩), undef]) (WX 20 21 24 wi.drew (wi.alloc (.cells #[.string (s.extract 0 m)] 9)).drew w2' (w2'.setCell ⟨b, k * 4 + 3, none⟩ (.slice a2 (q + 1) c2))) L ox ax wr ((wi.alloc (.cells #[.string (s.extract 0 m)] 9)).drew) 20 (.slice (some ⟨wi.heap.size, 0, none⟩) 1 1)
                refine kk _ _ _ ?_ ?_ ?_
                · (obtain rfl := hw.a hni (fun h => hni (hmd.closed 21 h 20 (by kernel_rfl))) (fun h => hni (hmd.closed 24 h 20 (by kernel_rfl))); kernel_rfl)
                · exact rfl
                · exact hw.s1 (fun h => hni (hmd.closed 21 h 20 (by kernel_rfl))) (fun h => hni (hmd.closed 24 h 20 (by kernel_rfl))) (by decide) (by decide)
              | 21, ho =>
                obtain rfl := Option.some.inj ho
                have h_8 : x8 = .slice wa q wc := hmd.rel 8 (hpre 8 (by kernel_rfl))
                subst h_8
                have h_20 : x20 = .slice (some ⟨wi.heap.size, 0, none⟩) 1 1 := hmd.rel 20 (hpre 20 (by kernel_rfl))
                subst h_20
                have kk := fun lx ox ax => @vstep_run Try.prog lx [x0, x1, x2, x3, x4, x5, x6, x7, (.slice wa q wc), x9, x10, x11, x12, x13, x14, x15, x16, x17, x18, x19, (.slice (some ⟨wi.heap.size, 0, none⟩) 1 1), x21, x22, x23, x24] (RL [.pointer (some ⟨A8, 1, none⟩), .slice (some ⟨b, 0, none⟩) n1 cj, .int .i64 k, .pointer (some ⟨A8, 1, none⟩), .slice (some ⟨b, 0, none⟩) n1 cj, .int .i64 k, .pointer (some ⟨b, k * 4, none⟩), .pointer (some ⟨b, k * 4 + 3, none⟩), .slice wa q wc, .slice (some ⟨bl, ol, none⟩) nl cl, .int .i64 q, .pointer (some ⟨bl, ol + q, none⟩), .string s, .slice (some ⟨bl, ol, none⟩) nl cl, .int .i64 q, .pointer (some ⟨bl, ol + q, none⟩), .string s, .int .i64 s.size, .int .i64 m, .string (s.extract 0 m), .slice (some ⟨wi.heap.size, 0, none⟩) 1 1, .slice a2 (q + 1 : Nat) c2, .pointer (some ⟨b, k * 4, none⟩), .pointer (some ⟨b, k * 4 + 3, none⟩), undef]) (WX 20 21 24 wi.drew (wi.alloc (.cells #[.string (s.extract 0 m)] 9)).drew w2' (w2'.setCell ⟨b, k * 4 + 3, none⟩ (.slice a2 (q + 1) c2))) L ox ax wr (w2') 21 (.slice a2 (q + 1 : Nat) c2)
                refine kk _ _ _ ?_ ?_ ?_
                · (obtain rfl := hw.b (hpre 20 (by kernel_rfl)) hni (fun h => hni (hmd.closed 24 h 21 (by kernel_rfl))); refine exec_append (.tmp 65) (.tmp 77) 45 45 ?_ ?_ ?_ HR.out <;> kernel_rfl)
                · exact rfl
                · exact hw.s2 (hpre 20 (by kernel_rfl)) (fun h => hni (hmd.closed 24 h 21 (by kernel_rfl))) (by decide)
              | 22, ho =>
                obtain rfl := Option.some.inj ho
                have h_1 : x1 = .slice (some ⟨b, 0, none⟩) n1 cj := hmd.rel 1 (hpre 1 (by kernel_rfl))
                subst h_1
                have h_2 : x2 = .int .i64 k := hmd.rel 2 (hpre 2 (by kernel_rfl))
                subst h_2
                have kk := fun lx ox ax => @vstep_run Try.prog lx [x0, (.slice (some ⟨b, 0, none⟩) n1 cj), (.int .i64 k), x3, x4, x5, x6, x7, x8, x9, x10, x11, x12, x13, x14, x15, x16, x17, x18, x19, x20, x21, x22, x23, x24] (RL [.pointer (some ⟨A8, 1, none⟩), .slice (some ⟨b, 0, none⟩) n1 cj, .int .i64 k, .pointer (some ⟨A8, 1, none⟩), .slice (some ⟨b, 0, none⟩) n1 cj, .int .i64 k, .pointer (some ⟨b, k * 4, none⟩), .pointer (some ⟨b, k * 4 + 3, none⟩), .slice wa q wc, .slice (some ⟨bl, ol, none⟩) nl cl, .int .i64 q, .pointer (some ⟨bl, ol + q, none⟩), .string s, .slice (some ⟨bl, ol, none⟩) nl cl, .int .i64 q, .pointer (some ⟨bl, ol + q, none⟩), .string s, .int .i64 s.size, .int .i64 m, .string (s.extract 0 m), .slice (some ⟨wi.heap.size, 0, none⟩) 1 1, .slice a2 (q + 1 : Nat) c2, .pointer (some ⟨b, k * 4, none⟩), .pointer (some ⟨b, k * 4 + 3, none⟩), undef]) (WX 20 21 24 wi.drew (wi.alloc (.cells #[.string (s.extract 0 m)] 9)).drew w2' (w2'.setCell ⟨b, k * 4 + 3, none⟩ (.slice a2 (q + 1) c2))) L ox ax wr wr 22 (.pointer (some ⟨b, k * 4, none⟩))
                refine kk _ _ _ ?_ ?_ ?_
                · (have hib := HIB.out; simp [putAll, execOp, go_sem, hib])
                · exact rfl
                · exact hw.add 22 (by decide) (by decide) (by decide)
              | 23, ho =>
                obtain rfl := Option.some.inj ho
                have h_22 : x22 = .pointer (some ⟨b, k * 4, none⟩) := hmd.rel 22 (hpre 22 (by kernel_rfl))
                subst h_22
                have kk := fun lx ox ax => @vstep_run Try.prog lx [x0, x1, x2, x3, x4, x5, x6, x7, x8, x9, x10, x11, x12, x13, x14, x15, x16, x17, x18, x19, x20, x21, (.pointer (some ⟨b, k * 4, none⟩)), x23, x24] (RL [.pointer (some ⟨A8, 1, none⟩), .slice (some ⟨b, 0, none⟩) n1 cj, .int .i64 k, .pointer (some ⟨A8, 1, none⟩), .slice (some ⟨b, 0, none⟩) n1 cj, .int .i64 k, .pointer (some ⟨b, k * 4, none⟩), .pointer (some ⟨b, k * 4 + 3, none⟩), .slice wa q wc, .slice (some ⟨bl, ol, none⟩) nl cl, .int .i64 q, .pointer (some ⟨bl, ol + q, none⟩), .string s, .slice (some ⟨bl, ol, none⟩) nl cl, .int .i64 q, .pointer (some ⟨bl, ol + q, none⟩), .string s, .int .i64 s.size, .int .i64 m, .string (s.extract 0 m), .slice (some ⟨wi.heap.size, 0, none⟩) 1 1, .slice a2 (q + 1 : Nat) c2, .pointer (some ⟨b, k * 4, none⟩), .pointer (some ⟨b, k * 4 + 3, none⟩), undef]) (WX 20 21 24 wi.drew (wi.alloc (.cells #[.string (s.extract 0 m)] 9)).drew w2' (w2'.setCell ⟨b, k * 4 + 3, none⟩ (.slice a2 (q + 1) c2))) L ox ax wr wr 23 (.pointer (some ⟨b, k * 4 + 3, none⟩))
                refine kk _ _ _ ?_ ?_ ?_
                · kernel_rfl
                · exact rfl
                · exact hw.add 23 (by decide) (by decide) (by decide)
              | 24, ho =>
                obtain rfl := Option.some.inj ho
                have h_23 : x23 = .pointer (some ⟨b, k * 4 + 3, none⟩) := hmd.rel 23 (hpre 23 (by kernel_rfl))
                subst h_23
                have h_21 : x21 = .slice a2 (q + 1 : Nat) c2 := hmd.rel 21 (hpre 21 (by kernel_rfl))
                subst h_21
                have kk := fun lx ox ax => @vstep_skip Try.prog lx [x0, x1, x2, x3, x4, x5, x6, x7, x8, x9, x10, x11, x12, x13, x14, x15, x16, x17, x18, x19, x20, (.slice a2 (q + 1 : Nat) c2), x22, (.pointer (some ⟨b, k * 4 + 3, none⟩)), x24] (RL [.pointer (some ⟨A8, 1, none⟩), .slice (some ⟨b, 0, none⟩) n1 cj, .int .i64 k, .pointer (some ⟨A8, 1, none⟩), .slice (some ⟨b, 0, none⟩) n1 cj, .int .i64 k, .pointer (some ⟨b, k * 4, none⟩), .pointer (some ⟨b, k * 4 + 3, none⟩), .slice wa q wc, .slice (some ⟨bl, ol, none⟩) nl cl, .int .i64 q, .pointer (some ⟨bl, ol + q, none⟩), .string s, .slice (some ⟨bl, ol, none⟩) nl cl, .int .i64 q, .pointer (some ⟨bl, ol + q, none⟩), .string s, .int .i64 s.size, .int .i64 m, .string (s.extract 0 m), .slice (some ⟨wi.heap.size, 0, none⟩) 1 1, .slice a2 (q + 1 : Nat) c2, .pointer (some ⟨b, k * 4, none⟩), .pointer (some ⟨b, k * 4 + 3, none⟩), undef]) (WX 20 21 24 wi.drew (wi.alloc (.cells #[.string (s.extract 0 m)] 9)).drew w2' (w2'.setCell ⟨b, k * 4 + 3, none⟩ (.slice a2 (q + 1) c2))) L ox ax wr (w2'.setCell ⟨b, k * 4 + 3, none⟩ (.slice a2 (q + 1) c2)) 24
                refine kk _ _ _ ?_ ?_ ?_
                · (obtain rfl := hw.c (hpre 20 (by kernel_rfl)) (hpre 21 (by kernel_rfl)) hni; simp [putAll, execOp, go_sem, d3', g3'])
                · exact rfl
                · exact WX.s3
              | q + 25, ho => exact absurd (List.getElem?_eq_some_iff.1 ho).1 (by simp)
            · intro xs wr hmd hw
              obtain ⟨x0, x1, x2, x3, x4, x5, x6, x7, x8, x9, x10, x11, x12, x13, x14, x15, x16, x17, x18, x19, x20, x21, x22, x23, x24, rfl⟩ : ∃ x0 x1 x2 x3 x4 x5 x6 x7 x8 x9 x10 x11 x12 x13 x14 x15 x16 x17 x18 x19 x20 x21 x22 x23 x24, xs = [x0, x1, x2, x3, x4, x5, x6, x7, x8, x9, x10, x11, x12, x13, x14, x15, x16, x17, x18, x19, x20, x21, x22, x23, x24] := by match xs, hmd.len with | [x0, x1, x2, x3, x4, x5, x6, x7, x8, x9, x10, x11, x12, x13, x14, x15, x16, x17, x18, x19, x20, x21, x22, x23, x24], _ => exact ⟨_, _, _, _, _, _, _, _, _, _, _, _, _, _, _, _, _, _, _, _, _, _, _, _, _, rfl⟩
              simp only [putAll]
              obtain rfl := hw.d (by decide)
              clear hmd hw HRD
              go_wp2_with fail
              go_roundg (4 - (q + 1))
              case measure => have := HGQ.out; omega
              case rel => exact ⟨q + 1, rfl, by omega, by omega, by go_num, HP.out⟩
          · have HE := Lib.hid (HEND.out (.inr (by omega)))
            clear HVS HEND
            go_wp2_with fail
            go_roundg (n1 - (k + 1))
            case measure => have := HGK.out; omega
            case rel => exact ⟨k + 1, rfl, by omega, by go_num, HE.out⟩
        · have HE := Lib.hid (HEND.out (.inl (by omega)))
          clear HVS HEND
          go_wp2_with fail
          go_roundg (n1 - (k + 1))
          case measure => have := HGK.out; omega
          case rel => exact ⟨k + 1, rfl, by omega, by go_num, HE.out⟩
    · obtain rfl : k = n1 := by omega
      have hvs2 := HVS.out
      rw [doneW_all (by have := HN1.out.1; omega)] at hvs2
      have HVS := Lib.hid hvs2
      have HB := Lib.hid (HB.out.trans (HVS.out.bel.mono (by have := HNM.out; omega)))
      have H1 := Lib.hid (H1.out.trans (HVS.out.bel.mono (by have := HNM.out; omega)))
      replace u0 := HVS.out.cell (by have := HNM.out; omega) u0
      replace u1 := HVS.out.cell (by have := HNM.out; omega) u1
      replace u2 := HVS.out.cell (by have := HNM.out; omega) u2
      replace u3 := HVS.out.cell (by have := HNM.out; omega) u3
      have hz := (HVS.out.keep A8 (Array.getElem?_eq_some_iff.1 HZ.out).1 (by omega)).trans HZ.out
      have v0 : wo.cell? ⟨A8, 0, none⟩ = some (.int .u32 u.ver) := cell_at hz
      have v1 : wo.cell? ⟨A8, 1, none⟩ = some (.slice aj k cj) := cell_at hz
      have v2 : wo.cell? ⟨A8, 2, none⟩ = some (.slice aq m1 cq) := cell_at hz
      have v3 : wo.cell? ⟨A8, 3, none⟩ = some (.int .u32 u.lock) := cell_at hz
      have HTV := Lib.hid (show TxAt wo (.agg #[.int .u32 u.ver, .slice aj k cj, .slice aq m1 cq, .int .u32 u.lock]) (setAll (cutW ls) u) from HVS.out.tx)
      have HV2 := Lib.hid hvs2
      have HWL := Lib.hid (Nat.le_refl wo.heap.size)
      have hcv : checkOf (setAll (cutW ls) u) = 0 := check_whole (all_whole (cutW_small ls) HW.out)
      have hcu : checkOf (setAll [] u) = 0 := check_whole (all_whole ⟨by simp, by simp⟩ HW.out)
      have HCV := Lib.hid hcv
      have HCU := Lib.hid hcu
      have HQ := Lib.hid (iid_any _ (setAll (cutW ls) u) wo HTV.out HFL.out)
      rw [all_id (cutW_small ls) HC0.out, hcv, ← HSID.out] at HQ
      clear hvs2 hz d1 e1 hcv hcu HVS
      have HO1 := Lib.hid (Below.refl wo.heap.size wo)
      go_wp2_with fail
      refine (HQ.out).mono ?_
      rintro e w11 ⟨rfl, hb⟩
      replace u0 := below_cells hb _ _ u0
      replace u1 := below_cells hb _ _ u1
      replace u2 := below_cells hb _ _ u2
      replace u3 := below_cells hb _ _ u3
      replace v0 := below_cells hb _ _ v0
      replace v1 := below_cells hb _ _ v1
      replace v2 := below_cells hb _ _ v2
      replace v3 := below_cells hb _ _ v3
      have HB := Lib.hid (HB.out.trans (hb.mono HB.out.size))
      have H1 := Lib.hid (H1.out.trans (hb.mono H1.out.size))
      have HO1 := Lib.hid (HO1.out.trans (hb.mono HO1.out.size))
      clear hb
      clear HQ HTV v0 v1 v2 v3
      have hvu : VS w0.heap.size w1.heap.size (.slice ai k ci) (.slice ao m1 co) u w11 (doneW [] 0 u.ins) w11 := by
        rw [doneW_zero]
        exact VS.later HOU.out (fun b _ hlb => H1.out.block b hlb) H1.out.size
      have HVU := Lib.hid hvu
      clear hvu
      go_wp2_with fail
      go_loopg [90] k (fun g vi wr => ∃ j : Nat, g = k - j ∧ j ≤ k ∧ vi = .int .i64 j ∧ VS w0.heap.size w1.heap.size (.slice ai k ci) (.slice ao m1 co) u w11 (doneW [] j u.ins) wr)
      case atStart => exact ⟨0, rfl, by omega, rfl, HVU.out⟩
      case round =>
        clear HVU
        rename World => wr
        obtain ⟨j, hgj, hj, rfl, hvs⟩ := hrel
        have HGJ := Lib.hid hgj
        have HVU := Lib.hid hvs
        clear hgj hvs
        have r1 : wr.cell? ⟨A5, 1, none⟩ = some (.slice ai k ci) := HVU.out.cell (by have := HNM.out; omega) u1
        by_cases hlt : j < k
        · obtain ⟨x, hx⟩ : ∃ x, u.ins[j]? = some x := ⟨_, List.getElem?_eq_getElem (by have := HN1.out.1; omega)⟩
          obtain ⟨b, wv, c9, e9, -, -, hs⟩ := HVU.out.slot (doneW_at (W := []) hx)
          rw [doneW_len, ← HN1.out.1] at e9
          obtain ⟨rfl, rfl⟩ : ai = some ⟨b, 0, none⟩ ∧ ci = c9 := by simpa using e9
          have hput := hs.put [] (.slice none 0 0) wr (fun _ _ _ => rfl) (Below.refl _ _) (Nat.le_refl _) (World.ownsRow_nil _ _ _ _) (fun s hs => by simp at hs) (.inr (.inl rfl))
          have hput2 := doneW_set (W := []) hx ▸ hput
          have HP := Lib.hid hput2
          have d3 := hs.cell
          have g3 := hs.free
          clear e9 hx hs HVU hput hput2
          go_wp2_with fail
          go_roundg (k - (j + 1))
          case measure => have := HGJ.out; omega
          case rel => exact ⟨j + 1, rfl, by omega, by go_num, HP.out⟩
        · obtain rfl : j = k := by omega
          have hvs2 := HVU.out
          rw [doneW_all (by have := HN1.out.1; omega)] at hvs2
          have HTU := Lib.hid (show TxAt wr (.agg #[.int .u32 u.ver, .slice ai j ci, .slice ao m1 co, .int .u32 u.lock]) (setAll [] u) from hvs2.tx)
          have hk2 : ∀ b, B8 ≤ b → b < wo.heap.size → wr.heap[b]? = wo.heap[b]? := fun b hb1 hb2 =>
            (HVU.out.keep b (Nat.lt_of_lt_of_le hb2 HO1.out.size) (by have := HNM.out; omega)).trans (HO1.out.block b hb2)
          have HTV := Lib.hid (show TxAt wr (.agg #[.int .u32 u.ver, .slice aj j cj, .slice aq m1 cq, .int .u32 u.lock]) (setAll (cutW ls) u) from HV2.out.tx_kept hk2)
          have HB := Lib.hid (HB.out.trans (HVU.out.bel.mono (by have := HNM.out; have := HOW.out; omega)))
          replace u0 := HVU.out.cell (by have := HNM.out; omega) u0
          replace u2 := HVU.out.cell (by have := HNM.out; omega) u2
          replace u3 := HVU.out.cell (by have := HNM.out; omega) u3
          replace u1 := r1
          have hz0 := (HV2.out.keep A8 (Array.getElem?_eq_some_iff.1 HZ.out).1 (by omega)).trans HZ.out
          have hz := (hk2 A8 (by have := HNM.out; omega) (Array.getElem?_eq_some_iff.1 hz0).1).trans hz0
          have v0 : wr.cell? ⟨A8, 0, none⟩ = some (.int .u32 u.ver) := cell_at hz
          have v1 : wr.cell? ⟨A8, 1, none⟩ = some (.slice aj j cj) := cell_at hz
          have v2 : wr.cell? ⟨A8, 2, none⟩ = some (.slice aq m1 cq) := cell_at hz
          have v3 : wr.cell? ⟨A8, 3, none⟩ = some (.int .u32 u.lock) := cell_at hz
          clear r1 hz hz0 hk2 hvs2 HV2 HVU H1 HO1
          obtain ⟨n, hn⟩ : ∃ n : Nat, n = (encL u false).length := ⟨_, rfl⟩
          have hnb : bareN u = (n : Int) := by unfold bareN; rw [hn]
          have hn1 : (n : Int) ≤ 200000 := by have := bareN_le HC0.out; omega
          obtain ⟨se, hse⟩ : ∃ s, s = bL (encL u false) := ⟨_, rfl⟩
          have hsz : se.size = n := by rw [hse, bL_size, hn]
          obtain ⟨mv, hmv⟩ : ∃ m, m = sizeE (setAll (cutW ls) u) := ⟨_, rfl⟩
          have hmn : (n : Int) ≤ mv := by have := all_size (cutW_small ls) HC0.out; omega
          have HQ1 := Lib.hid (fun y h => iwhole_any (.agg #[.int .u32 u.ver, .slice ai j ci, .slice ao m1 co, .int .u32 u.lock]) (setAll [] u) y h HFL.out)
          have HQ2 := Lib.hid (fun y h => isize_any (.agg #[.int .u32 u.ver, .slice ai j ci, .slice ao m1 co, .int .u32 u.lock]) (setAll [] u) y h HFL.out)
          have HQ3 := Lib.hid (fun y h => iweight_any (.agg #[.int .u32 u.ver, .slice ai j ci, .slice ao m1 co, .int .u32 u.lock]) (setAll [] u) y h HFL.out)
          have HQ4 := Lib.hid (fun y h => wenc_any (.agg #[.int .u32 u.ver, .slice ai j ci, .slice ao m1 co, .int .u32 u.lock]) (setAll [] u) y h HFL.out)
          have HQ5 := Lib.hid (fun y h => isize_any (.agg #[.int .u32 u.ver, .slice aj j cj, .slice aq m1 cq, .int .u32 u.lock]) (setAll (cutW ls) u) y h HFL.out)
          simp only [nil_id HC0.out, HCU.out, ← HSID.out] at HQ1
          simp only [nil_size HC0.out, HCU.out, hnb] at HQ2
          simp only [nil_weigh HC0.out, HCU.out, hnb] at HQ3
          simp only [nil_encE HC0.out, HCU.out, ← hse] at HQ4
          simp only [HCV.out, ← hmv] at HQ5
          clear hn hnb hse hmv
          go_wp2_with fail
          refine (HQ1.out wr HTU.out).mono ?_
          rintro e w12 ⟨rfl, hb⟩
          replace u0 := below_cells hb _ _ u0
          replace u1 := below_cells hb _ _ u1
          replace u2 := below_cells hb _ _ u2
          replace u3 := below_cells hb _ _ u3
          replace v0 := below_cells hb _ _ v0
          replace v1 := below_cells hb _ _ v1
          replace v2 := below_cells hb _ _ v2
          replace v3 := below_cells hb _ _ v3
          have HB := Lib.hid (HB.out.trans (hb.mono HB.out.size))
          have HTU := Lib.hid (HTU.out.below hb)
          have HTV := Lib.hid (HTV.out.below hb)
          clear hb
          go_wp2_with fail
          refine (HQ2.out w12 HTU.out).mono ?_
          rintro e w13 ⟨rfl, hb⟩
          replace u0 := below_cells hb _ _ u0
          replace u1 := below_cells hb _ _ u1
          replace u2 := below_cells hb _ _ u2
          replace u3 := below_cells hb _ _ u3
          replace v0 := below_cells hb _ _ v0
          replace v1 := below_cells hb _ _ v1
          replace v2 := below_cells hb _ _ v2
          replace v3 := below_cells hb _ _ v3
          have HB := Lib.hid (HB.out.trans (hb.mono HB.out.size))
          have HTU := Lib.hid (HTU.out.below hb)
          have HTV := Lib.hid (HTV.out.below hb)
          clear hb
          go_wp2_with fail
          refine (HQ3.out w13 HTU.out).mono ?_
          rintro e w14 ⟨rfl, hb⟩
          replace u0 := below_cells hb _ _ u0
          replace u1 := below_cells hb _ _ u1
          replace u2 := below_cells hb _ _ u2
          replace u3 := below_cells hb _ _ u3
          replace v0 := below_cells hb _ _ v0
          replace v1 := below_cells hb _ _ v1
          replace v2 := below_cells hb _ _ v2
          replace v3 := below_cells hb _ _ v3
          have HB := Lib.hid (HB.out.trans (hb.mono HB.out.size))
          have HTU := Lib.hid (HTU.out.below hb)
          have HTV := Lib.hid (HTV.out.below hb)
          clear hb
          go_wp2_with fail
          refine (HQ4.out w14 HTU.out).mono ?_
          rintro e w15 ⟨rfl, hb⟩
          replace u0 := below_cells hb _ _ u0
          replace u1 := below_cells hb _ _ u1
          replace u2 := below_cells hb _ _ u2
          replace u3 := below_cells hb _ _ u3
          replace v0 := below_cells hb _ _ v0
          replace v1 := below_cells hb _ _ v1
          replace v2 := below_cells hb _ _ v2
          replace v3 := below_cells hb _ _ v3
          have HB := Lib.hid (HB.out.trans (hb.mono HB.out.size))
          have HTU := Lib.hid (HTU.out.below hb)
          have HTV := Lib.hid (HTV.out.below hb)
          clear hb
          go_wp2_with fail
          refine (HQ5.out w15 HTV.out).mono ?_
          rintro e w16 ⟨rfl, hb⟩
          have HB := Lib.hid (HB.out.trans (hb.mono HB.out.size))
          clear hb
          go_wp2_with fail
          refine (wakes7_any w16).mono ?_
          rintro e w17 ⟨rfl, hb⟩
          have HB := Lib.hid (HB.out.trans (hb.mono HB.out.size))
          clear hb
          go_wp2_with fail
          go_ret
          exact ⟨rfl, HB.out⟩
end Go.Proofs.Ytmcknjldimnaoaa
