/-
  claim.Group: the walk. Conditions: no more than twenty claims, which lie in memory.
-/
import Derived.Test.YtmakghcoehkphaaGreatKr2
import Derived.Test.YtmakghcoehkphaaGreatQ8ClaimBuilds
import Derived.Test.YtmakghcoehkphaaGreatCut
namespace Go.Proofs.YtmakghcoehkphaaGreat
open Go.RowKit Go.BigFrame Go.Maps Go.Sort
set_option linter.unusedVariables false
set_option linter.unusedSimpArgs false

def fz (l : List PCl) (j : Int) : List PCl := if 0 ≤ j then filt l j else []
theorem fz_nil : fz [] = fun _ => [] := by funext j; unfold fz filt; simp
theorem fz_no {l : List PCl} {c : PCl} (h : bkC c < 0) : fz (l ++ [c]) = fz l := by
  funext j
  unfold fz
  by_cases hj : 0 ≤ j
  · rw [if_pos hj, if_pos hj, filt_snoc, if_neg (by omega)]
  · rw [if_neg hj, if_neg hj]
theorem fz_yes {l : List PCl} {c : PCl} (h : 0 ≤ bkC c) : fz (l ++ [c]) = fun j => if j = bkC c then fz l (bkC c) ++ [c] else fz l j := by
  funext j
  unfold fz
  rw [if_pos h]
  by_cases hj : j = bkC c
  · subst hj
    rw [if_pos rfl, if_pos h, filt_snoc, if_pos rfl]
  · rw [if_neg hj]
    by_cases h0 : 0 ≤ j
    · rw [if_pos h0, if_pos h0, filt_snoc, if_neg (fun e => hj e.symm)]
    · rw [if_neg h0, if_neg h0]
theorem fz_len (l : List PCl) (j : Int) : (fz l j).length ≤ l.length := by
  unfold fz
  split
  · exact filt_len l j
  · simp
theorem bks_no {l : List PCl} {c : PCl} (h : bkC c < 0) : bksOf (l ++ [c]) = bksOf l := by rw [bks_snoc, if_neg (fun q => by omega)]
theorem bks_old {l : List PCl} {c : PCl} (h0 : 0 ≤ bkC c) (h : (fz l (bkC c)).length ≠ 0) : bksOf (l ++ [c]) = bksOf l := by
  rw [bks_snoc, if_neg]
  rintro ⟨-, h2⟩
  refine h2 ((bks_mem l _).2 ⟨h0, fun e => h ?_⟩)
  unfold fz
  rw [if_pos h0, e]; rfl
theorem bks_new {l : List PCl} {c : PCl} (h0 : 0 ≤ bkC c) (h : (fz l (bkC c)).length = 0) : bksOf (l ++ [c]) = bksOf l ++ [bkC c] := by
  rw [bks_snoc, if_pos]
  refine ⟨h0, fun q => ?_⟩
  have := ((bks_mem l _).1 q).2
  unfold fz at h
  rw [if_pos h0] at h
  exact this (List.length_eq_zero_iff.1 h)
theorem info_slC : (Tryz.prog.info? 22).map (fun i => (i.zero, i.size, i.bytes)) = some (some (.slice none 0 0), 1, 24) := by kernel_rfl
/-- The buckets, rising. -/
def rsB (l : List PCl) : List Int := rising (l.map bkC)
theorem rsB_eq (l : List PCl) : rsB l = isort ltI (bksOf l) := rfl
theorem rsB_merge (l : List PCl) : (bksOf l).mergeSort (fun x y => decide (x ≤ y)) = rsB l := merge_isort _ (onceI_nodup _)
theorem rsB_len (l : List PCl) : (rsB l).length = (bksOf l).length := (isort_perm _).length_eq
theorem rsB_mem {l : List PCl} {b : Int} (h : b ∈ rsB l) : (0 ≤ b ∧ b ≤ 1000000) ∧ (fz l b).length ≠ 0 := by
  have h1 := (isort_perm (bksOf l)).mem_iff.1 h
  obtain ⟨h2, h3⟩ := (bks_mem l b).1 h1
  refine ⟨⟨h2, ?_⟩, fun e => h3 ?_⟩
  · obtain ⟨c, hc⟩ := List.exists_mem_of_ne_nil _ h3
    have := (List.mem_filter.1 hc).2
    simp only [decide_eq_true_eq] at this
    rw [← this]
    exact bkt_hi _
  · unfold fz at e
    rw [if_pos h2] at e
    exact List.length_eq_zero_iff.1 e
theorem rsB_nodup (l : List PCl) : (rsB l).Nodup := rising_nodup _
theorem fz_sort {l : List PCl} {b : Int} (h : 0 ≤ b) : isort ltC (fz l b) = ofG bkC ltC l b := by
  unfold fz ofG
  rw [if_pos h]; rfl
/-- What the rows hold behind k rounds. -/
def lkC (l : List PCl) (k : Nat) (j : Int) : List PCl := if j ∈ (rsB l).take k then ofG bkC ltC l j else fz l j
theorem lkC_zero (l : List PCl) : lkC l 0 = fz l := by funext j; unfold lkC; rw [List.take_zero, if_neg (by simp)]
theorem lkC_at {l : List PCl} {k : Nat} {b : Int} (h : (rsB l)[k]? = some b) : lkC l k b = fz l b := by
  unfold lkC
  rw [if_neg]
  intro q
  obtain ⟨i, hi⟩ := List.mem_iff_getElem?.1 q
  have hik : i < k := by have := (List.getElem?_eq_some_iff.1 hi).1; simp at this; omega
  rw [List.getElem?_take_of_lt hik] at hi
  have := (List.getElem?_inj (by have := (List.getElem?_eq_some_iff.1 h).1; omega) (rsB_nodup l)).1 (hi.trans h.symm)
  omega
theorem lkC_next {l : List PCl} {k : Nat} {b : Int} (h : (rsB l)[k]? = some b) : lkC l (k + 1) = fun j => if j = b then isort ltC (lkC l k b) else lkC l k j := by
  have h0 : 0 ≤ b := (rsB_mem (List.mem_of_getElem? h)).1.1
  funext j
  rw [lkC_at h, fz_sort h0]
  unfold lkC
  rw [List.take_add_one, h]
  by_cases hj : j = b
  · subst hj
    rw [if_pos rfl, if_pos (by simp)]
  · rw [if_neg hj]
    have : (j ∈ (rsB l).take k ++ (some b).toList) ↔ j ∈ (rsB l).take k := by simp [hj]
    by_cases hm : j ∈ (rsB l).take k
    · rw [if_pos hm, if_pos (this.2 hm)]
    · rw [if_neg hm, if_neg (fun q => hm (this.1 q))]
section
variable {w wr w' : World} {B cn : Nat} {V : Int → Value} {L : Int → List PCl} {r o : Value} {bs : List Int}
/-- Another row grows. -/
theorem GR.aside (h : GR w B V L r bs cn wr) (hb : Below (B + 1) wr w') (hk : ∀ q, q < wr.heap.size → o.ownBlock ≠ some q → w'.heap[q]? = wr.heap[q]?) (ho : ∀ q, o.ownBlock = some q → B + 1 ≤ q)
    (hV : ∀ j q, (V j).ownBlock = some q → o.ownBlock ≠ some q) (hr : ∀ q, r.ownBlock = some q → o.ownBlock ≠ some q) : GR w B V L r bs cn w' :=
  ⟨h.bel.trans (hb.mono (by have := h.low; omega)), h.low, h.map.kept (hk B h.map.lt fun e => by have := ho B e; omega), fun j => (h.rows j).kept fun q hq => hk q ((h.rows j).row.lt q hq).2 (hV j q hq), h.apart, ownsRow_of_block h.bks fun q hq => hk q (h.bks.lt q hq).2 (hr q hq), h.out, Nat.le_trans h.size hb.size⟩
theorem grp_sl {l : List PCl} (h : GR w B V L r bs cn wr) (ho : wr.ownsRow (B + 1) 22 1 o (rsB l).length ((rsB l).map V)) (hL : ∀ j ∈ rsB l, L j = ofG bkC ltC l j) : SlAt (rpSl rpCl) wr o (grpG bkC ltC l) := by
  have hlen : (grpG bkC ltC l).length = (rsB l).length := grp_length l
  obtain ⟨a, c, rfl, h1, h2⟩ := ownsRow_shape ho
  refine ⟨a, c, by rw [hlen], by rw [hlen]; exact h1, h2, fun i x hi => ?_⟩
  rw [grp_get] at hi
  obtain ⟨b, hb, rfl⟩ := Option.map_eq_some_iff.1 hi
  have hb' : (rsB l)[i]? = some b := hb
  have hil : i < (rsB l).length := (List.getElem?_eq_some_iff.1 hb').1
  obtain ⟨g, rfl, hg1, hg2⟩ := ownsRow_some ho (by omega)
  refine ⟨g, 0, [V b], rfl, rfl, fun j u hj => ?_, V b, rfl, ?_⟩
  · obtain rfl : j = 0 := by have := (List.getElem?_eq_some_iff.1 hj).1; simp at this; omega
    have := ho.cells (g := g) rfl i u (by simp at hj; simp [hb', hj])
    rw [Addr.add_lit] at this
    simpa [rpSl] using this
  · rw [← hL b (List.mem_of_getElem? hb')]
    exact (h.rows b).sl
end
def GrpIs (gs : List (List PCl)) (w : World) (e : Ending) (w' : World) : Prop := ∃ v, e = .returned v ∧ SlAt (rpSl rpCl) w' v gs ∧ Below w.heap.size w w'
set_option maxRecDepth 100000 in
set_option maxHeartbeats 8000000 in
theorem group_any (v : Value) (l : List PCl) (w : World) (hv : SlAt rpCl w v l) (hlen : l.length ≤ 20) : Calls Tryz.prog 19 #[v] w (GrpIs (grpG bkC ltC l) w) := by
  have HSL := Lib.hid hv
  obtain ⟨a, c, rfl, hl1, hl2⟩ := hv.shape
  rw [maxLen_eq] at hl2
  obtain ⟨n, hn⟩ : ∃ n, n = l.length := ⟨_, rfl⟩
  rw [← hn] at hl1 HSL hlen ⊢
  have HN := Lib.hid hn
  have HLEN := Lib.hid hlen
  clear hn hv hlen
  go_enter Tryz.func19, Tryz.ntmps19
  have hmm := @run_makeMap Tryz.prog
  go_upto_region 2 with fail
  have hmd := SlM.made w
  have hz := heap_alloc_new w (.map #[] 0)
  have hal : Below w.heap.size w (w.alloc (.map #[] 0)) := (Below.refl _ _).alloc (Nat.le_refl _) _
  obtain ⟨B, hB⟩ : ∃ q, q = w.heap.size := ⟨_, rfl⟩
  rw [← hB] at hz ⊢
  generalize w.alloc (.map #[] 0) = w0 at *
  rw [← hB] at hmd
  have HG := Lib.hid (show GR w B (fun _ => .slice none 0 0) (fun _ => []) (.slice none 0 0) [] 0 w0 from
    ⟨hal, by omega, hmd, fun j => clsOwn_nil _ _, fun i j b _ h => by simp [Value.ownBlock] at h, World.ownsRow_nil _ _ _ _, fun j b h => by simp [Value.ownBlock] at h, lt_of hz⟩)
  clear hz hal hB hmd hmm
  go_wp2_with fail
  go_loopg [4, 15] n (fun g r i wr => ∃ (k : Nat) (V : Int → Value) (r0 : Value), r = r0 ∧ g = n - k ∧ k ≤ n ∧ i = .int .i64 k ∧ GR w B V (fz (l.take k)) r0 (bksOf (l.take k)) k wr)
  case atStart => exact ⟨0, _, _, rfl, rfl, by omega, rfl, by rw [List.take_zero, fz_nil]; exact HG.out⟩
  case round =>
    clear HG
    rename World => wo
    obtain ⟨k, V, r0, hr0, hgk, hk, rfl, hgr⟩ := hrel
    obtain rfl := hr0.symm
    have HGK := Lib.hid hgk
    have HG := Lib.hid hgr
    clear hgk hgr
    by_cases hlt : k < n
    · obtain ⟨b, o, x, rfl, hx, hok, hcl⟩ := (HSL.out.below HG.out.bel).cl hlt
      obtain ⟨d0, d1, d2, d3, d4, d5, d6, d7⟩ := hcl
      have HOK := Lib.hid hok
      have HTK := Lib.hid (take_snoc hx)
      clear hx hok
      go_upto_region 6 with fail
      have hz := heap_alloc_new wo (.cells #[.string x.id, .int .u32 x.idx, .int .i64 x.val, .int .i64 x.br, .int .u16 x.lock.tag, .int .u16 x.lock.delay, .int .u32 x.lock.height, .int .i64 x.dead] 34)
      have hal : Below wo.heap.size wo (wo.alloc (.cells #[.string x.id, .int .u32 x.idx, .int .i64 x.val, .int .i64 x.br, .int .u16 x.lock.tag, .int .u16 x.lock.delay, .int .u32 x.lock.height, .int .i64 x.dead] 34)) := (Below.refl _ _).alloc (Nat.le_refl _) _
      obtain ⟨C, hC⟩ : ∃ q, q = wo.heap.size := ⟨_, rfl⟩
      rw [← hC] at hz ⊢
      generalize wo.alloc (.cells #[.string x.id, .int .u32 x.idx, .int .i64 x.val, .int .i64 x.br, .int .u16 x.lock.tag, .int .u16 x.lock.delay, .int .u32 x.lock.height, .int .i64 x.dead] 34) = wc at *
      have HGO := Lib.hid HG.out
      have HG := Lib.hid (HG.out.below hal)
      have HCB := Lib.hid hz
      have c7 : wc.cell? ⟨C, 7, none⟩ = some (.int .i64 x.dead) := cell_at hz
      have HNC := Lib.hid (show r0.ownBlock ≠ some C from fun e => by have := (HGO.out.bks.lt C e).2; omega)
      have HBQ := Lib.hid (bucket_any x.dead wc)
      have HB1 := Lib.hid (fun h => bktE_ok (d := x.dead) h)
      have HB2 := Lib.hid (fun h => bktE_no (d := x.dead) h)
      have HB3 := Lib.hid (show bkC x = bktOf x.dead from rfl)
      have HB4 := Lib.hid (bkt_hi x.dead)
      obtain ⟨be, hbe⟩ : ∃ be, be = bktE x.dead := ⟨_, rfl⟩
      rw [← hbe] at HBQ HB1 HB2
      obtain ⟨bq, er⟩ := be
      have hCl := lt_of hz
      clear hz hal hC hbe d0 d1 d2 d3 d4 d5 d6 d7 HGO
      dsimp only at *
      go_wp2_with fail
      refine HBQ.out.mono ?_
      rintro e w' ⟨rfl, rfl⟩
      clear HBQ c7
      by_cases her : er = 0
      rotate_left
      · obtain ⟨h1, h2⟩ := HB2.out her
        have hne : (er == 0) = false := by simpa using her
        have HF := Lib.hid (fz_no (l := l.take k) (c := x) (by rw [HB3.out, h2]; decide))
        have HK := Lib.hid (bks_no (l := l.take k) (c := x) (by rw [HB3.out, h2]; decide))
        clear h1 h2
        go_wp2_with fail
        go_roundg (n - (k + 1))
        case measure => have := HGK.out; omega
        case rel => exact ⟨k + 1, V, _, rfl, rfl, by omega, by go_num, by rw [HTK.out, HF.out, HK.out]; exact HG.out.more⟩
      · obtain ⟨h1, h2⟩ := HB1.out her
        subst her
        subst h1
        have h3 := HB4.out
        rw [← HB3.out] at h2 h3 ⊢
        have HX := Lib.hid HB3.out
        obtain ⟨bb, hbb⟩ : ∃ bb, bb = bkC x := ⟨_, rfl⟩
        rw [← hbb] at h2 h3 ⊢
        have HBB := Lib.hid hbb
        clear HB1 HB2 HB3 HB4 hbb
        obtain ⟨a0, q0, hV⟩ := shapeV HG.out bb
        have HV := Lib.hid hV
        have hlook := HG.out.map.look (k := bb) (by omega)
        rw [hV] at hlook
        have hfl := fz_len (l.take k) bb
        have hfl2 : (fz (l.take k) bb).length ≤ 20 := by rw [List.length_take] at hfl; have := HLEN.out; omega
        obtain ⟨m, hm⟩ : ∃ m, m = (fz (l.take k) bb).length := ⟨_, rfl⟩
        rw [← hm] at hlook hfl2
        have HM := Lib.hid hm
        have hbl := bks_len (l.take k)
        have hbl2 : (bksOf (l.take k)).length ≤ 1000 := by rw [List.length_take] at hbl; have := HLEN.out; omega
        obtain ⟨a6, c6, hr6, -, -⟩ := ownsRow_shape HG.out.bks
        subst hr6
        clear hV hfl hm hbl
        go_upto_if 31 with fail
        go_cut [4] (fun s4 wx => ∃ r1, s4 = r1 ∧ GR w B V (fz (l.take k)) r1 (bksOf (l.take k ++ [x])) k wx ∧ wx.heap[C]? = wc.heap[C]?)
        case first =>
          by_cases hm0 : m = 0
          · have HNB := Lib.hid (bks_new (l := l.take k) (c := x) (by rw [← HBB.out]; omega) (by rw [← HBB.out, ← HM.out]; exact hm0))
            rw [← HBB.out] at HNB
            obtain ⟨a7, c7, w7, hrun, hg7, hk7⟩ := HG.out.bucket hbl2 bb
            have HR := Lib.hid hrun
            have HG7 := Lib.hid hg7
            have HK7 := Lib.hid (hk7 C hCl HNC.out)
            subst hm0
            clear hrun hg7 hk7
            go_wp2_with (at_builtin; refine wpList_append_run rfl (.tmp 32) (.tmp 34) 36 36 rfl rfl rfl HR.out ?_)
            go_meet
            exact ⟨_, rfl, by rw [HNB.out]; exact HG7.out, HK7.out⟩
          · have HNB := Lib.hid (bks_old (l := l.take k) (c := x) (by rw [← HBB.out]; omega) (by rw [← HBB.out, ← HM.out]; exact hm0))
            have hm1 : ((m : Int) == 0) = false := by simpa using hm0
            have hm2 : ¬ (m : Int) = 0 := by omega
            go_wp2_with fail
            go_meet
            exact ⟨_, rfl, by rw [HNB.out]; exact HG.out, rfl⟩
        case rest =>
          rename World => w5
          obtain ⟨r1, hr1, hg5, hC5⟩ := hcut
          obtain rfl := hr1.symm
          have HG5 := Lib.hid hg5
          have hC := hC5.trans HCB.out
          have c0 : w5.cell? ⟨C, 0, none⟩ = some (.string x.id) := cell_at hC
          have c1 : w5.cell? ⟨C, 1, none⟩ = some (.int .u32 x.idx) := cell_at hC
          have c2 : w5.cell? ⟨C, 2, none⟩ = some (.int .i64 x.val) := cell_at hC
          have c3 : w5.cell? ⟨C, 3, none⟩ = some (.int .i64 x.br) := cell_at hC
          have c4 : w5.cell? ⟨C, 4, none⟩ = some (.int .u16 x.lock.tag) := cell_at hC
          have c5 : w5.cell? ⟨C, 5, none⟩ = some (.int .u16 x.lock.delay) := cell_at hC
          have c6' : w5.cell? ⟨C, 6, none⟩ = some (.int .u32 x.lock.height) := cell_at hC
          have c7 : w5.cell? ⟨C, 7, none⟩ = some (.int .i64 x.dead) := cell_at hC
          have hlook5 := HG5.out.map.look (k := bb) (by omega)
          rw [HV.out, ← HM.out] at hlook5
          obtain ⟨a8, c8, w8, w9, hrun, hput, hg9⟩ := HG5.out.add (k := bb) (by omega) HV.out (by rw [← HM.out]; omega) (by have := HLEN.out; omega) HOK.out
          rw [← HM.out] at hrun hput hg9
          have HR := Lib.hid hrun
          have HG9 := Lib.hid (show GR w B (fun j => if j = bb then .slice a8 (m + 1) c8 else V j) (fz (l.take (k + 1))) r1 (bksOf (l.take (k + 1))) (k + 1) w9 from by
            rw [HTK.out, fz_yes (l := l.take k) (c := x) (by rw [← HBB.out]; omega), ← HBB.out]
            exact hg9)
          clear hg5 hC5 hC hrun hg9 hlook
          go_wp2_with (at_builtin; refine wpList_append_run rfl (.tmp 40) (.tmp 42) 22 22 rfl rfl rfl HR.out ?_)
          go_roundg (n - (k + 1))
          case measure => have := HGK.out; omega
          case rel => exact ⟨k + 1, _, _, rfl, rfl, by omega, by go_num, HG9.out⟩
    · obtain rfl : n = k := by omega
      have htk : l.take n = l := List.take_of_length_le (by rw [HN.out]; exact Nat.le_refl _)
      rw [htk] at HG
      have hbl := bks_len l
      have hbl2 : (bksOf l).length ≤ 20 := by have := HLEN.out; rw [HN.out] at this; omega
      obtain ⟨a6, c6, hr6, -, -⟩ := ownsRow_shape HG.out.bks
      subst hr6
      obtain ⟨q, hq⟩ : ∃ q, q = (bksOf l).length := ⟨_, rfl⟩
      have HQ := Lib.hid hq
      have HQ2 := Lib.hid (show (rsB l).length = q by rw [hq]; exact rsB_len l)
      have hq20 : q ≤ 20 := by omega
      clear htk hbl hbl2
      rw [← hq]
      clear hq
      go_upto_region 12 with fail
      go_cut [] (fun wx => GR w B V (fz l) (.slice a6 q c6) (rsB l) n wx)
      case first =>
        by_cases h0 : q = 0
        · have hS : rsB l = bksOf l := by
            have e1 : rsB l = [] := List.length_eq_zero_iff.1 (HQ2.out.trans h0)
            have e2 : bksOf l = [] := List.length_eq_zero_iff.1 (HQ.out.symm.trans h0)
            rw [e1, e2]
          have HF := Lib.hid (show GR w B V (fz l) (.slice a6 q c6) (rsB l) n wo by rw [hS, HQ.out]; exact HG.out)
          have HS := Lib.hid (Tryz.slices_Sort_int_none a6 c6 wo)
          subst h0
          clear hS
          go_wp2_with fail
          refine HS.out.mono ?_
          rintro e w1 ⟨rfl, rfl⟩
          go_wp2_with fail
          go_meet
          exact HF.out
        · obtain ⟨g, hg, hg1, hg2⟩ := ownsRow_some HG.out.bks (by rw [← HQ.out]; omega)
          subst hg
          have HGQ := Lib.hid (show GR w B V (fz l) (.slice (some ⟨g, 0, none⟩) (bksOf l).length c6) (bksOf l) n wo from HG.out)
          have hH : Holds (Value.int .i64) wo g 0 (bksOf l).toArray := by
            rcases HGQ.out.bks.2 with ⟨e0, -⟩ | ⟨g', cap, cur, e0, -, hb, -, -, -, ht⟩
            · cases e0
            · obtain ⟨rfl, -⟩ : g = g' ∧ c6 = cap := by simpa using e0
              exact holds_of_blockI hb (by rw [Nat.mul_one] at ht; exact ht)
          have HS := Lib.hid (Tryz.slices_Sort_int g 0 c6 (bksOf l) wo hH hg2 (by rw [← HQ.out]; omega))
          rw [rsB_merge, ← HQ.out] at HS
          have HSB := Lib.hid (fun n1 os => HGQ.out.sortB (n := n1) (os := os) (ts := rsB l) (rsB_len l))
          rw [HQ2.out] at HSB
          clear hH
          go_wp2_with fail
          refine HS.out.mono ?_
          rintro e w1 ⟨rfl, n1, os, hw1⟩
          have HF := Lib.hid (HSB.out n1 os)
          rw [← hw1] at HF
          clear hw1
          go_wp2_with fail
          go_meet
          exact HF.out
      case rest =>
        rename World => w5
        have HG := Lib.hid hcut
        clear hcut
        go_wp2_with fail
        go_loopg [9, 49] q (fun g ov i wr => ∃ (k : Nat) (o : Value), ov = o ∧ g = q - k ∧ k ≤ q ∧ i = .int .i64 k ∧ GR w B V (lkC l k) (.slice a6 q c6) (rsB l) n wr ∧ wr.ownsRow (B + 1) 22 1 o k (((rsB l).take k).map V) ∧
          (∀ j b, (V j).ownBlock = some b → o.ownBlock ≠ some b) ∧ (∀ b, (Value.slice a6 q c6).ownBlock = some b → o.ownBlock ≠ some b))
        case atStart => exact ⟨0, _, rfl, rfl, by omega, rfl, by rw [lkC_zero]; exact HG.out, World.ownsRow_nil _ _ _ _, fun j b _ e => by simp [Value.ownBlock] at e, fun b _ e => by simp [Value.ownBlock] at e⟩
        case round =>
          clear HG
          rename World => wp
          obtain ⟨k, ov, ho0, hgk, hk, rfl, hgr, hown, hov, hor⟩ := hrel
          obtain rfl := ho0.symm
          have HGK := Lib.hid hgk
          have HG := Lib.hid hgr
          have HOW := Lib.hid hown
          have HOV := Lib.hid hov
          have HOR := Lib.hid hor
          clear hgk hgr hown hov hor
          by_cases hlt2 : k < q
          · obtain ⟨bb, hbb⟩ : ∃ b, (rsB l)[k]? = some b := ⟨_, List.getElem?_eq_getElem (by rw [HQ2.out]; exact hlt2)⟩
            have hmem := rsB_mem (List.mem_of_getElem? hbb)
            have hsi : SlAt (rpInt .i64) wp (.slice a6 q c6) (rsB l) := SlAt.of_ints (by have h := HG.out.bks; rw [HQ2.out] at h; exact h) HQ2.out.symm (fun y hy => wf_of (by have := (rsB_mem hy).1; omega))
            obtain ⟨sb, so, y, rfl, hy, -, y0⟩ := hsi.int hlt2
            rw [hbb] at hy
            obtain rfl := Option.some.inj hy
            have hb1 := hmem.1
            obtain ⟨a0, q0, hV⟩ := shapeV HG.out bb
            have hLk : lkC l k bb = fz l bb := lkC_at hbb
            rw [hLk] at hV
            obtain ⟨m, hm⟩ : ∃ m, m = (fz l bb).length := ⟨_, rfl⟩
            rw [← hm] at hV
            have hm20 : m ≤ 20 := by have := fz_len l bb; have := HLEN.out; rw [HN.out] at this; omega
            have hm0 : 0 < m := by have := hmem.2; omega
            have hrow : wp.ownsRow (B + 1) 34 8 (.slice a0 m q0) m (clsCells (fz l bb)) := by
              have h := (HG.out.rows bb).row
              rw [hLk, hV, ← hm] at h
              exact h
            obtain ⟨g, hg, hg1, hg2⟩ := ownsRow_some hrow hm0
            subst hg
            have hcls : ClsOwn (B + 1) wp (.slice (some ⟨g, 0, none⟩) m q0) (fz l bb) := by
              have h := HG.out.rows bb
              rw [hLk, hV] at h
              exact h
            have HS := Lib.hid (sortC_any (B + 1) g m q0 (fz l bb) wp hcls hm hm20)
            have HV := Lib.hid hV
            have hlook := HG.out.map.look (k := bb) (by omega)
            rw [hV] at hlook
            have HBB := Lib.hid hbb
            have HLK := Lib.hid hLk
            clear hbb hmem hsi hy hV hLk hrow hcls hm
            go_wp2_with fail
            refine HS.out.mono ?_
            rintro e w1 ⟨rfl, hown1, hgr1⟩
            have HG1 := Lib.hid (show GR w B V (lkC l (k + 1)) (.slice (some ⟨sb, so, none⟩) q c6) (rsB l) n w1 from by
              rw [lkC_next HBB.out]
              exact HG.out.sorted HV.out (e := .returned (.tuple #[])) (by rw [HLK.out]; exact ⟨rfl, hown1, hgr1⟩))
            have hne : ov.ownBlock ≠ some g := HOV.out bb g (by rw [HV.out]; rfl)
            have HOW1 := Lib.hid (ownsRow_of_block HOW.out fun p hp => hgr1.block p (HOW.out.lt p hp).2 (fun e => hne (by rw [hp]; simpa [eq_comm] using e)))
            have hlook1 := HG1.out.map.look (k := bb) (by omega)
            rw [HV.out] at hlook1
            obtain ⟨ao, co, hov, -, -⟩ := ownsRow_shape HOW1.out
            subst hov
            obtain ⟨i0, hi, hz0, hz1, hz2⟩ := info_parts info_slC
            obtain ⟨a8, c8, w8, hrun, hown8, hb8, hg8, hv8⟩ := append_one (P := Tryz.prog) Tryz.underlying35 hi hz0 hz1 hz2 rfl HOW1.out #[V bb] rfl (by rw [HV.out]; simp [Value.oneCell']) (by rw [maxLen_eq]; omega) (by omega) HG1.out.size (ty := 35)
            have hk8 : ∀ p, p < w1.heap.size → (Value.slice ao k co).ownBlock ≠ some p → w8.heap[p]? = w1.heap[p]? := fun p hp hn => by
              rw [hg8.block p (by simp; omega) (fun e => hn e.symm)]
              exact Below.heap_alloc _ _ p hp
            have HG8 := Lib.hid (HG1.out.aside (o := .slice ao k co) hb8 hk8 (fun p hp => (HOW1.out.lt p hp).1) HOV.out HOR.out)
            have hnew : ∀ p, (Value.slice a8 (k + 1) c8).ownBlock = some p → (Value.slice ao k co).ownBlock = some p ∨ p = w1.heap.size + 1 := fun p hp => by
              rcases hv8 with e | e
              · exact .inl (e ▸ hp)
              · rw [e] at hp
                exact .inr (by simpa [eq_comm] using hp)
            have HOV8 := Lib.hid (show ∀ j b, (V j).ownBlock = some b → (Value.slice a8 (k + 1) c8).ownBlock ≠ some b from fun j b hj e => by
              rcases hnew b e with h | h
              · exact HOV.out j b hj h
              · have := ((HG1.out.rows j).row.lt b hj).2
                omega)
            have HOR8 := Lib.hid (show ∀ b, (Value.slice (some ⟨sb, so, none⟩) q c6).ownBlock = some b → (Value.slice a8 (k + 1) c8).ownBlock ≠ some b from fun b hj e => by
              rcases hnew b e with h | h
              · exact HOR.out b hj h
              · have := (HG1.out.bks.lt b hj).2
                omega)
            have HO8 := Lib.hid (show w8.ownsRow (B + 1) 22 1 (.slice a8 (k + 1) c8) (k + 1) (((rsB l).take (k + 1)).map V) from by
              rw [List.take_add_one, HBB.out, List.map_append]
              exact hown8)
            rw [HV.out] at hrun
            have HR := Lib.hid hrun
            clear hown1 hgr1 hne hi hz0 hz1 hz2 hrun hown8 hb8 hg8 hv8 hk8 hnew hlook y0
            go_wp2_with (at_builtin; refine wpList_append_run rfl (.tmp 57) (.tmp 61) 35 35 rfl rfl rfl HR.out ?_)
            go_roundg (q - (k + 1))
            case measure => have := HGK.out; omega
            case rel => exact ⟨k + 1, _, rfl, rfl, by omega, by go_num, HG8.out, HO8.out, HOV8.out, HOR8.out⟩
          · obtain rfl : q = k := by omega
            have HF := Lib.hid (show GrpIs (grpG bkC ltC l) w (.returned ov) wp from ⟨ov, rfl, grp_sl HG.out (by
                have h := HOW.out
                rw [List.take_of_length_le (by rw [HQ2.out]; exact Nat.le_refl _)] at h
                rw [HQ2.out]
                exact h) (fun j hj => by
                unfold lkC
                rw [List.take_of_length_le (by rw [HQ2.out]; exact Nat.le_refl _), if_pos hj]), HG.out.bel⟩)
            go_wp2_with fail
            go_ret
            exact HF.out
end Go.Proofs.YtmakghcoehkphaaGreat
